/- Plain functions, and what says that the program's functions compute them. -/
import Derived.Test.YtoahcombdhgmhaaSeb
set_option linter.unusedVariables false
set_option linter.unusedSimpArgs false
open Go Go.RX Go.Proofs
namespace Go.RX
set_option maxRecDepth 10000
set_option maxHeartbeats 4000000
attribute [local irreducible] CallW CallP LoopW W IntKind.wrap bitI
def role_in (a0 : Int) (a1 : Int) (a2 : Int) : Option Bool :=
  some (bif (decide (a1 ≤ a0)) then (decide (a0 ≤ a2)) else false)

theorem c_role_in (a0 : Int) (a1 : Int) (a2 : Int) (r : Bool) (h : role_in a0 a1 a2 = some r) : CallP Try.prog 262 [(I a0), (I a1), (I a2)] (LV.bool r) := by
  unfold role_in at h
  refine .intro nlA (.intro TT_ok Try.func262 rfl rfl [0, 1, 2, 6] rfl ?_)
  conv => whnf
  have e := Option.some.inj h
  subst e
  repeat' first | with_reducible rfl | with_reducible exact True.intro | with_reducible assumption | exact clA _ | (refine And.intro ?_ ?_ <;> conv => whnf) | exact clG _ | (refine gand ?_ h; assumption) | exact clN _ | fail

def vec_in (a0 : Int) (a1 : Int) : Option Bool :=
  some (bif (decide (0 ≤ a0)) then (decide (a0 ≤ a1)) else false)

theorem c_vec_in (a0 : Int) (a1 : Int) (r : Bool) (h : vec_in a0 a1 = some r) : CallP Try.prog 255 [(I a0), (I a1)] (LV.bool r) := by
  unfold vec_in at h
  refine .intro nlA (.intro TT_ok Try.func255 rfl rfl [0, 1, 4] rfl ?_)
  conv => whnf
  have e := Option.some.inj h
  subst e
  repeat' first | with_reducible rfl | with_reducible exact True.intro | with_reducible assumption | exact clA _ | (refine And.intro ?_ ?_ <;> conv => whnf) | exact clG _ | (refine gand ?_ h; assumption) | exact clN _ | fail

def vec_Right (a0 : VecT) : Option Bool :=
  (vec_in a0.Root 65535).bind fun y11 =>
  (gd y11 (vec_in a0.Bridge 65535)).bind fun y13 =>
  (gd (bif y11 then y13 else false) (vec_in a0.Cost 2147483647)).bind fun y15 =>
  (gd (bif (bif y11 then y13 else false) then y15 else false) (vec_in a0.Port 7)).bind fun y17 =>
  some (bif (bif (bif y11 then y13 else false) then y15 else false) then y17 else false)

theorem c_vec_Right (a0 : VecT) (r : Bool) (h : vec_Right a0 = some r) : CallP Try.prog 167 [(LV.agg [(I a0.Root), (I a0.Cost), (I a0.Bridge), (I a0.Port)])] (LV.bool r) := by
  unfold vec_Right at h
  refine .intro nlA (.intro TT_ok Try.func167 rfl rfl [0, 1, 2] rfl ?_)
  conv => whnf
  replace h := bindS h
  obtain ⟨y11, hy11, h⟩ := h
  have c12 := c_vec_in a0.Root 65535 _ hy11
  replace h := bindS h
  obtain ⟨y13, hy13, h⟩ := h
  have c14 := fun (hg : y11 = true) => c_vec_in a0.Bridge 65535 _ (gdS hg hy13)
  replace h := bindS h
  obtain ⟨y15, hy15, h⟩ := h
  have c16 := fun (hg : (bif y11 then y13 else false) = true) => c_vec_in a0.Cost 2147483647 _ (gdS hg hy15)
  replace h := bindS h
  obtain ⟨y17, hy17, h⟩ := h
  have c18 := fun (hg : (bif (bif y11 then y13 else false) then y15 else false) = true) => c_vec_in a0.Port 7 _ (gdS hg hy17)
  have e := Option.some.inj h
  subst e
  repeat' first | with_reducible rfl | with_reducible exact True.intro | with_reducible assumption | (refine ⟨_, c14, ?_⟩; conv => whnf) | (refine ⟨_, c16, ?_⟩; conv => whnf) | (refine ⟨_, c18, ?_⟩; conv => whnf) | (refine CallP.use c12 ?_; conv => whnf) | exact clA _ | (refine And.intro ?_ ?_ <;> conv => whnf) | exact clG _ | (refine gand ?_ h; assumption) | exact clN _ | fail

def role_isInfo (a0 : InfoT) (a1 : Bool) : Option Bool :=
  (bif (bif (!a0.Has) then true else (!a1)) then
    some ((a0.Has == false) && (((decide (a0.Vec.Root = 0)) && ((decide (a0.Vec.Cost = 0)) && ((decide (a0.Vec.Bridge = 0)) && ((decide (a0.Vec.Port = 0)) && true)))) && ((decide (a0.Age = 0)) && true)))
  else
    (vec_Right a0.Vec).bind fun y19 =>
    (gd y19 (role_in a0.Age 0 255)).bind fun y21 =>
    some (bif y19 then y21 else false))

theorem c_role_isInfo (a0 : InfoT) (a1 : Bool) (r : Bool) (h : role_isInfo a0 a1 = some r) : CallP Try.prog 263 [(LV.agg [(LV.bool a0.Has), (I a0.Vec.Root), (I a0.Vec.Cost), (I a0.Vec.Bridge), (I a0.Vec.Port), (I a0.Age)]), (LV.bool a1)] (LV.bool r) := by
  unfold role_isInfo at h
  refine .intro nlA (.intro TT_ok Try.func263 rfl rfl [0, 1, 2, 4, 11] rfl ?_)
  conv => whnf
  repeat' first | with_reducible rfl | with_reducible exact True.intro | with_reducible assumption | refine parkI ?_ | exact clA _ | (refine And.intro ?_ ?_ <;> conv => whnf) | exact clG _ | (refine gand ?_ h; assumption) | fail
  refine parkE (fun hc => ?_) (fun hc => ?_)
  · replace h := condT hc h
    conv => whnf
    have e := Option.some.inj h
    subst e
    repeat' first | with_reducible rfl | with_reducible exact True.intro | with_reducible assumption | exact clA _ | (refine And.intro ?_ ?_ <;> conv => whnf) | exact clG _ | (refine gand ?_ h; assumption) | exact clN _ | fail
  · replace h := condF hc h
    conv => whnf
    replace h := bindS h
    obtain ⟨y19, hy19, h⟩ := h
    have c20 := c_vec_Right a0.Vec _ hy19
    replace h := bindS h
    obtain ⟨y21, hy21, h⟩ := h
    have c22 := fun (hg : y19 = true) => c_role_in a0.Age 0 255 _ (gdS hg hy21)
    have e := Option.some.inj h
    subst e
    repeat' first | with_reducible rfl | with_reducible exact True.intro | with_reducible assumption | (refine ⟨_, c22, ?_⟩; conv => whnf) | (refine CallP.use c20 ?_; conv => whnf) | exact clA _ | (refine And.intro ?_ ?_ <;> conv => whnf) | exact clG _ | (refine gand ?_ h; assumption) | exact clN _ | fail

def role_Right_b1 (a0 : SelfT) (k1 : Nat) (x1 : Int) (s1 : Unit) : Option (Step Bool Unit) :=
  (role_in x1 1 1000).bind fun y5 =>
  (gd (!(!y5)) (gix a0.Infos ((k1 : Nat) : Int))).bind fun v7 =>
  (gd (!(!y5)) (gix a0.Ups ((k1 : Nat) : Int))).bind fun v9 =>
  (gd (!(!y5)) (role_isInfo v7 v9)).bind fun y23 =>
  (bif (bif (!y5) then true else (!y23)) then
    some (.ret false)
  else
    some (.nxt ()))

def role_Right (a0 : SelfT) : Option Bool :=
  (role_in a0.ID 0 65535).bind fun y1 =>
  (gd (!(!y1)) (role_in ((a0.Costs.length : Nat) : Int) 1 8)).bind fun y3 =>
  (bif (bif (bif (bif (!y1) then true else (!y3)) then true else (!decide (((a0.Ups.length : Nat) : Int) = ((a0.Costs.length : Nat) : Int)))) then true else (!decide (((a0.Infos.length : Nat) : Int) = ((a0.Costs.length : Nat) : Int)))) then
    some false
  else
    aft (rangeL (role_Right_b1 a0) a0.Costs ()) fun s1 =>
    some true)

theorem c_role_Right (a0 : SelfT) (r : Bool) (h : role_Right a0 = some r) : CallP Try.prog 191 [(LV.agg [(I a0.ID), (LV.ro 1 (a0.Costs.map iC)), (LV.ro 1 (a0.Ups.map bC)), (LV.ro 6 (a0.Infos.map InfoT.cells))])] (LV.bool r) := by
  unfold role_Right at h
  refine .intro nlA (.intro TT_ok Try.func191 rfl rfl [0, 1, 2, 3, 4, 5, 31, 33, 34, 35, 36, 56] rfl ?_)
  conv => whnf
  replace h := bindS h
  obtain ⟨y1, hy1, h⟩ := h
  have c2 := c_role_in a0.ID 0 65535 _ hy1
  replace h := bindS h
  obtain ⟨y3, hy3, h⟩ := h
  have c4 : (!(!y1)) = true → CallP Try.prog 262 [(I (((a0.Costs.map iC).length : Nat) : Int)), (I 1), (I 8)] (LV.bool y3) := by first | exact fun (hg : (!(!y1)) = true) => c_role_in ((a0.Costs.length : Nat) : Int) 1 8 _ (gdS hg hy3) | (simpa only [se_map, se_byL, se_len, se_ch, List.length_map] using fun (hg : (!(!y1)) = true) => c_role_in ((a0.Costs.length : Nat) : Int) 1 8 _ (gdS hg hy3))
  repeat' first | with_reducible rfl | with_reducible exact True.intro | with_reducible assumption | refine parkI ?_ | (refine ⟨_, c4, ?_⟩; conv => whnf) | (refine CallP.use c2 ?_; conv => whnf) | (refine ⟨_, _, CallP.at c2, ?_⟩; conv => whnf) | (refine ⟨_, fun _ => c2, ?_⟩; conv => whnf) | (refine W.drawn TT_ok hmix1 rfl ?_; conv => whnf) | exact clA _ | (refine And.intro ?_ ?_ <;> conv => whnf) | exact clG _ | (refine gand ?_ h; assumption) | exact clN _ | fail
  refine parkE (fun hc => ?_) (fun hc => ?_)
  · replace h := condT (by first | exact hc | simpa only [se_len, se_ch, List.length_map] using hc) h
    conv => whnf
    have e := Option.some.inj h
    subst e
    repeat' first | with_reducible rfl | with_reducible exact True.intro | with_reducible assumption | (refine W.drawn TT_ok hmix1 rfl ?_; conv => whnf) | exact clA _ | (refine And.intro ?_ ?_ <;> conv => whnf) | exact clG _ | (refine gand ?_ h; assumption) | exact clN _ | fail
  · replace h := condF (by first | exact hc | simpa only [se_len, se_ch, List.length_map] using hc) h
    conv => whnf
    repeat' first | with_reducible rfl | with_reducible exact True.intro | with_reducible assumption | refine parkI ?_ | (refine W.drawn TT_ok hmix1 rfl ?_; conv => whnf) | exact clA _ | (refine And.intro ?_ ?_ <;> conv => whnf) | exact clG _ | (refine gand ?_ h; assumption) | exact clN _ | fail
    replace h := aftS h
    obtain ⟨O1, hO1, r1⟩ := h
    refine LoopW.norm [(1, (LV.ptr 0 0 0)), (33, (LV.ro 1 (a0.Costs.map iC))), (34, (I (((a0.Costs.map iC).length : Nat) : Int))), (35, (I ((0 : Nat) : Int)))] 1 [(0, (.row 82 4 [[(I a0.ID), (LV.ro 1 (a0.Costs.map iC)), (LV.ro 1 (a0.Ups.map bC)), (LV.ro 6 (a0.Infos.map InfoT.cells))]]))] ⟨rfl, rfl, rfl, rfl, trivial⟩ ⟨⟨rfl, rfl, blT⟩, trivial⟩ blT rfl ?_
    refine LoopW.forR (fun k1 s1 => [(1, (LV.ptr 0 0 0)), (33, (LV.ro 1 (a0.Costs.map iC))), (34, (I (((a0.Costs.map iC).length : Nat) : Int))), (35, (I ((k1 : Nat) : Int)))]) (fun s1 => ⟨1, [(0, (.row 82 4 [[(I a0.ID), (LV.ro 1 (a0.Costs.map iC)), (LV.ro 1 (a0.Ups.map bC)), (LV.ro 6 (a0.Infos.map InfoT.cells))]]))]⟩) hO1 (fun hl1 s1 hs1 => ?_) (fun hl1 k1 x1 s1 o1 hk1 hx1 b1 K1 hret1 hbrk1 => ?_)
    · rw [hs1] at r1
      dsimp only [aftM] at r1
      have hd : decide (((a0.Costs.length : Nat) : Int) < (((a0.Costs.map iC).length : Nat) : Int)) = false := by rw [decide_eq_false_iff_not]; (try simp only [se_len, se_ch, List.length_map]); omega
      refine LoopW.round TT_ok [0, 1, 2, 3, 4, 5, 31, 33, 34, 35, 36, 56] ?_
      conv => whnf
      repeat' first | with_reducible rfl | with_reducible exact True.intro | with_reducible assumption | refine parkI ?_ | (refine W.drawn TT_ok hmix1 rfl ?_; conv => whnf) | exact clA _ | (refine And.intro ?_ ?_ <;> conv => whnf) | exact clG _ | (refine gand ?_ h; assumption) | exact clN _ | fail
      refine parkE (fun hc => ?_) (fun hc => ?_)
      · exact (Bool.false_ne_true (hd.symm.trans hc)).elim
      · clear hd
        conv => whnf
        have e := Option.some.inj r1
        subst e
        repeat' first | with_reducible rfl | with_reducible exact True.intro | with_reducible assumption | (refine W.drawn TT_ok hmix1 rfl ?_; conv => whnf) | exact clA _ | (refine And.intro ?_ ?_ <;> conv => whnf) | exact clG _ | (refine gand ?_ h; assumption) | exact clN _ | fail
    · unfold role_Right_b1 at b1
      have hd : decide (((k1 : Nat) : Int) < (((a0.Costs.map iC).length : Nat) : Int)) = true := by rw [decide_eq_true_eq]; (try simp only [se_len, se_ch, List.length_map] at hk1); (try simp only [se_len, se_ch, List.length_map]); omega
      refine LoopW.round TT_ok [0, 1, 2, 3, 4, 5, 31, 33, 34, 35, 36, 56] ?_
      conv => whnf
      repeat' first | with_reducible rfl | with_reducible exact True.intro | with_reducible assumption | refine parkI ?_ | (refine W.drawn TT_ok hmix1 rfl ?_; conv => whnf) | exact clA _ | (refine And.intro ?_ ?_ <;> conv => whnf) | exact clG _ | (refine gand ?_ h; assumption) | exact clN _ | fail
      refine parkE (fun hc => ?_) (fun hc => ?_)
      · clear hd
        conv => whnf
        replace b1 := bindS b1
        obtain ⟨y5, hy5, b1⟩ := b1
        have c6 := c_role_in x1 1 1000 _ hy5
        replace b1 := bindS b1
        obtain ⟨v7, hv7, b1⟩ := b1
        have i8 := fun hg => gixF (f := InfoT.cells) (gdS hg hv7)
        replace b1 := bindS b1
        obtain ⟨v9, hv9, b1⟩ := b1
        have i10 := fun hg => gixF (f := bC) (gdS hg hv9)
        replace b1 := bindS b1
        obtain ⟨y23, hy23, b1⟩ := b1
        have c24 := fun (hg : (!(!y5)) = true) => c_role_isInfo v7 v9 _ (gdS hg hy23)
        repeat' first | with_reducible rfl | with_reducible exact True.intro | with_reducible assumption | refine parkI ?_ | (refine ⟨_, (kixF (f := iC) hx1), ?_⟩; conv => whnf) | (refine ⟨_, i8, ?_⟩; conv => whnf) | (refine ⟨_, i10, ?_⟩; conv => whnf) | (refine ⟨_, c24, ?_⟩; conv => whnf) | (refine CallP.use c6 ?_; conv => whnf) | (refine ⟨_, _, CallP.at c6, ?_⟩; conv => whnf) | (refine ⟨_, fun _ => c6, ?_⟩; conv => whnf) | (refine W.drawn TT_ok hmix1 rfl ?_; conv => whnf) | exact clA _ | (refine And.intro ?_ ?_ <;> conv => whnf) | exact clG _ | (refine gand ?_ h; assumption) | exact clN _ | fail
        refine parkE (fun hc => ?_) (fun hc => ?_)
        · replace b1 := condT hc b1
          conv => whnf
          have e := Option.some.inj b1
          replace e := hret1 _ e.symm
          rw [e] at r1
          replace e := Option.some.inj r1
          subst e
          repeat' first | with_reducible rfl | with_reducible exact True.intro | with_reducible assumption | (refine W.drawn TT_ok hmix1 rfl ?_; conv => whnf) | exact clA _ | (refine And.intro ?_ ?_ <;> conv => whnf) | exact clG _ | (refine gand ?_ h; assumption) | exact clN _ | fail
        · replace b1 := condF hc b1
          conv => whnf
          repeat' first | with_reducible rfl | with_reducible exact True.intro | with_reducible assumption | refine parkI ?_ | (refine W.drawn TT_ok hmix1 rfl ?_; conv => whnf) | exact clA _ | (refine And.intro ?_ ?_ <;> conv => whnf) | exact clG _ | (refine gand ?_ h; assumption) | exact clN _ | fail
          have e := Option.some.inj b1
          refine LoopW.norm [(1, (LV.ptr 0 0 0)), (33, (LV.ro 1 (a0.Costs.map iC))), (34, (I (((a0.Costs.map iC).length : Nat) : Int))), (35, (I ((k1 + 1 : Nat) : Int)))] 1 [(0, (.row 82 4 [[(I a0.ID), (LV.ro 1 (a0.Costs.map iC)), (LV.ro 1 (a0.Ups.map bC)), (LV.ro 6 (a0.Infos.map InfoT.cells))]]))] ⟨rfl, rfl, rfl, (congrArg (LV.int .i64) (w64_nat _ (by omega))), trivial⟩ ⟨⟨rfl, rfl, blT⟩, trivial⟩ blT rfl (K1 _ e.symm)
      · exact (Bool.false_ne_true (hc.symm.trans hd)).elim

def vec_Far (a0 : VecT) (a1 : Int) : Option (VecT × Int) :=
  (vec_Right a0).bind fun y32 =>
  (gd (!(!y32)) (vec_in a1 2147483647)).bind fun y34 =>
  (bif (bif (!y32) then true else (!y34)) then
    some ((⟨0, 0, 0, 0⟩ : VecT), 1)
  else
    some ((⟨a0.Root, (mn (IntKind.i64.wrap (a0.Cost + a1)) 2147483647), a0.Bridge, a0.Port⟩ : VecT), 0))

theorem c_vec_Far (a0 : VecT) (a1 : Int) (r : (VecT × Int)) (h : vec_Far a0 a1 = some r) : CallP Try.prog 244 [(LV.agg [(I a0.Root), (I a0.Cost), (I a0.Bridge), (I a0.Port)]), (I a1)] (LV.tup [(LV.agg [(I r.1.Root), (I r.1.Cost), (I r.1.Bridge), (I r.1.Port)]), (I r.2)]) := by
  unfold vec_Far at h
  refine .intro nlA (.intro TT_ok Try.func244 rfl rfl [0, 1, 2, 4, 5, 13] rfl ?_)
  conv => whnf
  replace h := bindS h
  obtain ⟨y32, hy32, h⟩ := h
  have c33 := c_vec_Right a0 _ hy32
  replace h := bindS h
  obtain ⟨y34, hy34, h⟩ := h
  have c35 := fun (hg : (!(!y32)) = true) => c_vec_in a1 2147483647 _ (gdS hg hy34)
  repeat' first | with_reducible rfl | with_reducible exact True.intro | with_reducible assumption | refine parkI ?_ | (refine ⟨_, c35, ?_⟩; conv => whnf) | (refine CallP.use c33 ?_; conv => whnf) | exact clA _ | (refine And.intro ?_ ?_ <;> conv => whnf) | exact clG _ | (refine gand ?_ h; assumption) | fail
  refine parkE (fun hc => ?_) (fun hc => ?_)
  · replace h := condT hc h
    conv => whnf
    have e := Option.some.inj h
    subst e
    repeat' first | with_reducible rfl | with_reducible exact True.intro | with_reducible assumption | exact clA _ | (refine And.intro ?_ ?_ <;> conv => whnf) | exact clG _ | (refine gand ?_ h; assumption) | exact clN _ | fail
  · replace h := condF hc h
    conv => whnf
    have e := Option.some.inj h
    subst e
    repeat' first | with_reducible rfl | with_reducible exact True.intro | with_reducible assumption | exact clA _ | (refine And.intro ?_ ?_ <;> conv => whnf) | exact clG _ | (refine gand ?_ h; assumption) | exact clN _ | fail

def _role_by_vec (a0 : role_byT) (a1 : SelfT) : Option VecT :=
  (gix a1.Infos a0.port).bind fun v28 =>
  (gix a1.Costs a0.port).bind fun v30 =>
  (vec_Far v28.Vec v30).bind fun y36 =>
  some y36.1

theorem c__role_by_vec (a0 : role_byT) (a1 : SelfT) (r : VecT) (h : _role_by_vec a0 a1 = some r) : CallP Try.prog 264 [(LV.agg [(I a0.port)]), (LV.agg [(I a1.ID), (LV.ro 1 (a1.Costs.map iC)), (LV.ro 1 (a1.Ups.map bC)), (LV.ro 6 (a1.Infos.map InfoT.cells))])] (LV.agg [(I r.Root), (I r.Cost), (I r.Bridge), (I r.Port)]) := by
  unfold _role_by_vec at h
  refine .intro nlA (.intro TT_ok Try.func264 rfl rfl [0, 1, 2, 3, 4, 5] rfl ?_)
  conv => whnf
  replace h := bindS h
  obtain ⟨v28, hv28, h⟩ := h
  have i29 := gixF (f := InfoT.cells) hv28
  replace h := bindS h
  obtain ⟨v30, hv30, h⟩ := h
  have i31 := gixF (f := iC) hv30
  replace h := bindS h
  obtain ⟨y36, hy36, h⟩ := h
  have c37 := c_vec_Far v28.Vec v30 _ hy36
  have e := Option.some.inj h
  subst e
  repeat' first | with_reducible rfl | with_reducible exact True.intro | with_reducible assumption | (refine ⟨_, i29, ?_⟩; conv => whnf) | (refine ⟨_, i31, ?_⟩; conv => whnf) | (refine CallP.use c37 ?_; conv => whnf) | (refine ⟨_, _, CallP.at c37, ?_⟩; conv => whnf) | (refine ⟨_, fun _ => c37, ?_⟩; conv => whnf) | (refine W.drawnM (id := 1) 0 TT_ok hmix1 [0, 0, 0, 0, 0, 0, 0, 0, 0, 0, 0, 0, 0, 0, 0, 0, 0, 0, 1, 2] [1, 1, 1, 1, 1, 1, 1, 1, 1, 1, 1, 1, 1, 1, 1, 1, 2, 1, 2, 2] rfl ?_; conv => whnf) | exact clA _ | (refine And.intro ?_ ?_ <;> conv => whnf) | exact clG _ | (refine gand ?_ h; assumption) | exact clN _ | fail

def slices_IndexFunc_Vec_b3 (q1 : (VecT → Option Bool)) (k3 : Nat) (x3 : VecT) (s3 : Unit) : Option (Step Int Unit) :=
  (q1 x3).bind fun y41 =>
  (bif y41 then
    some (.ret ((k3 : Nat) : Int))
  else
    some (.nxt ()))

def slices_IndexFunc_Vec (a0 : (List VecT)) (q1 : (VecT → Option Bool)) : Option Int :=
  aft (rangeL (slices_IndexFunc_Vec_b3 q1) a0 ()) fun s3 =>
  some (-1)

theorem c_slices_IndexFunc_Vec (a0 : (List VecT)) (fn1 : Nat) (ff1 fc1 : List LV) (q1 : (VecT → Option Bool)) (hq1 : ∀ (x0 : VecT) (r : Bool), q1 x0 = some r → CallP Try.prog fn1 (ff1 ++ [(LV.agg [(I x0.Root), (I x0.Cost), (I x0.Bridge), (I x0.Port)])] ++ fc1) (LV.bool r)) (hn1 : NLs ff1 ∧ NLs fc1) (r : Int) (h : slices_IndexFunc_Vec a0 q1 = some r) : CallP Try.prog 340 [(LV.ro 4 (a0.map VecT.cells)), (LV.func (.func fn1) ff1 fc1)] (I r) := by
  have hnA1 := hn1.1
  have hnB1 := hn1.2
  unfold slices_IndexFunc_Vec at h
  refine .intro nlA (.intro TT_ok Try.func340 rfl rfl [0, 1, 4, 5, 7, 8, 9, 16] rfl ?_)
  conv => whnf
  repeat' first | with_reducible rfl | with_reducible exact True.intro | with_reducible assumption | refine parkI ?_ | (refine And.intro ?_ ?_ <;> conv => whnf) | fail
  replace h := aftS h
  obtain ⟨O3, hO3, r3⟩ := h
  refine LoopW.norm [(0, (LV.ro 4 (a0.map VecT.cells))), (1, (LV.func (.func fn1) ff1 fc1)), (7, (I (((a0.map VecT.cells).length : Nat) : Int))), (8, (I ((0 : Nat) : Int)))] 0 [] ⟨rfl, rfl, rfl, rfl, trivial⟩ trivial blT rfl ?_
  refine LoopW.forR (fun k3 s3 => [(0, (LV.ro 4 (a0.map VecT.cells))), (1, (LV.func (.func fn1) ff1 fc1)), (7, (I (((a0.map VecT.cells).length : Nat) : Int))), (8, (I ((k3 : Nat) : Int)))]) (fun s3 => ⟨0, []⟩) hO3 (fun hl3 s3 hs3 => ?_) (fun hl3 k3 x3 s3 o3 hk3 hx3 b3 K3 hret3 hbrk3 => ?_)
  · rw [hs3] at r3
    dsimp only [aftM] at r3
    have hd : decide (((a0.length : Nat) : Int) < (((a0.map VecT.cells).length : Nat) : Int)) = false := by rw [decide_eq_false_iff_not]; (try simp only [se_len, se_ch, List.length_map]); omega
    refine LoopW.round TT_ok [0, 1, 4, 5, 7, 8, 9, 16] ?_
    conv => whnf
    repeat' first | with_reducible rfl | with_reducible exact True.intro | with_reducible assumption | refine parkI ?_ | (refine And.intro ?_ ?_ <;> conv => whnf) | fail
    refine parkE (fun hc => ?_) (fun hc => ?_)
    · exact (Bool.false_ne_true (hd.symm.trans hc)).elim
    · clear hd
      conv => whnf
      have e := Option.some.inj r3
      subst e
      repeat' first | with_reducible rfl | with_reducible exact True.intro | with_reducible assumption | exact clA _ | (refine And.intro ?_ ?_ <;> conv => whnf) | exact clG _ | (refine gand ?_ h; assumption) | exact clN _ | fail
  · unfold slices_IndexFunc_Vec_b3 at b3
    have hd : decide (((k3 : Nat) : Int) < (((a0.map VecT.cells).length : Nat) : Int)) = true := by rw [decide_eq_true_eq]; (try simp only [se_len, se_ch, List.length_map] at hk3); (try simp only [se_len, se_ch, List.length_map]); omega
    refine LoopW.round TT_ok [0, 1, 4, 5, 7, 8, 9, 16] ?_
    conv => whnf
    repeat' first | with_reducible rfl | with_reducible exact True.intro | with_reducible assumption | refine parkI ?_ | (refine And.intro ?_ ?_ <;> conv => whnf) | fail
    refine parkE (fun hc => ?_) (fun hc => ?_)
    · clear hd
      conv => whnf
      replace b3 := bindS b3
      obtain ⟨y41, hy41, b3⟩ := b3
      have c42 := hq1 x3 _ hy41
      repeat' first | with_reducible rfl | with_reducible exact True.intro | with_reducible assumption | refine parkI ?_ | (refine ⟨_, (kixF (f := VecT.cells) hx3), ?_⟩; conv => whnf) | (refine CallP.use c42 ?_; conv => whnf) | (refine frzB_call rfl (slN_nil hn1) ?_; conv => whnf) | (refine And.intro ?_ ?_ <;> conv => whnf) | fail
      refine parkE (fun hc => ?_) (fun hc => ?_)
      · replace b3 := condT hc b3
        conv => whnf
        have e := Option.some.inj b3
        replace e := hret3 _ e.symm
        rw [e] at r3
        replace e := Option.some.inj r3
        subst e
        repeat' first | with_reducible rfl | with_reducible exact True.intro | with_reducible assumption | exact clA _ | (refine And.intro ?_ ?_ <;> conv => whnf) | exact clG _ | (refine gand ?_ h; assumption) | exact clN _ | fail
      · replace b3 := condF hc b3
        conv => whnf
        repeat' first | with_reducible rfl | with_reducible exact True.intro | with_reducible assumption | refine parkI ?_ | (refine And.intro ?_ ?_ <;> conv => whnf) | fail
        have e := Option.some.inj b3
        refine LoopW.norm [(0, (LV.ro 4 (a0.map VecT.cells))), (1, (LV.func (.func fn1) ff1 fc1)), (7, (I (((a0.map VecT.cells).length : Nat) : Int))), (8, (I ((k3 + 1 : Nat) : Int)))] 0 [] ⟨rfl, rfl, rfl, (congrArg (LV.int .i64) (w64_nat _ (by omega))), trivial⟩ trivial blT rfl (K3 _ e.symm)
    · exact (Bool.false_ne_true (hc.symm.trans hd)).elim

def slices_ContainsFunc_Vec (a0 : (List VecT)) (q1 : (VecT → Option Bool)) : Option Bool :=
  (slices_IndexFunc_Vec a0 q1).bind fun y44 =>
  some (decide (0 ≤ y44))

theorem c_slices_ContainsFunc_Vec (a0 : (List VecT)) (fn1 : Nat) (ff1 fc1 : List LV) (q1 : (VecT → Option Bool)) (hq1 : ∀ (x0 : VecT) (r : Bool), q1 x0 = some r → CallP Try.prog fn1 (ff1 ++ [(LV.agg [(I x0.Root), (I x0.Cost), (I x0.Bridge), (I x0.Port)])] ++ fc1) (LV.bool r)) (hn1 : NLs ff1 ∧ NLs fc1) (r : Bool) (h : slices_ContainsFunc_Vec a0 q1 = some r) : CallP Try.prog 318 [(LV.ro 4 (a0.map VecT.cells)), (LV.func (.func fn1) ff1 fc1)] (LV.bool r) := by
  have hnA1 := hn1.1
  have hnB1 := hn1.2
  unfold slices_ContainsFunc_Vec at h
  refine .intro nlA (.intro TT_ok Try.func318 rfl rfl [0, 1, 4] rfl ?_)
  conv => whnf
  have n43 : slNs [(LV.ro 4 (a0.map VecT.cells)), (LV.func (.func fn1) ff1 fc1)] = [] := slNs_nil nlA
  replace h := bindS h
  obtain ⟨y44, hy44, h⟩ := h
  have c45 := c_slices_IndexFunc_Vec a0 fn1 ff1 fc1 q1 hq1 hn1 _ hy44
  have e := Option.some.inj h
  subst e
  repeat' first | with_reducible rfl | with_reducible exact True.intro | with_reducible assumption | (refine CallP.use c45 ?_; conv => whnf) | (refine frzB_call n43 rfl ?_; conv => whnf) | (refine frz_nil n43 ?_; conv => whnf) | exact clA _ | (refine And.intro ?_ ?_ <;> conv => whnf) | exact clG _ | (refine gand ?_ h; assumption) | exact clN _ | fail

def vec_allRight_1 (a0 : VecT) : Option Bool :=
  (vec_Right a0).bind fun y46 =>
  some (!y46)

theorem c_vec_allRight_1 (a0 : VecT) (r : Bool) (h : vec_allRight_1 a0 = some r) : CallP Try.prog 319 [(LV.agg [(I a0.Root), (I a0.Cost), (I a0.Bridge), (I a0.Port)])] (LV.bool r) := by
  unfold vec_allRight_1 at h
  refine .intro nlA (.intro TT_ok Try.func319 rfl rfl [0, 1, 2] rfl ?_)
  conv => whnf
  replace h := bindS h
  obtain ⟨y46, hy46, h⟩ := h
  have c47 := c_vec_Right a0 _ hy46
  have e := Option.some.inj h
  subst e
  repeat' first | with_reducible rfl | with_reducible exact True.intro | with_reducible assumption | (refine CallP.use c47 ?_; conv => whnf) | exact clA _ | (refine And.intro ?_ ?_ <;> conv => whnf) | exact clG _ | (refine gand ?_ h; assumption) | exact clN _ | fail

def vec_allRight (a0 : (List VecT)) : Option Bool :=
  (slices_ContainsFunc_Vec a0 (fun x0_ => vec_allRight_1 x0_)).bind fun y48 =>
  some (!y48)

theorem c_vec_allRight (a0 : (List VecT)) (r : Bool) (h : vec_allRight a0 = some r) : CallP Try.prog 298 [(LV.ro 4 (a0.map VecT.cells))] (LV.bool r) := by
  unfold vec_allRight at h
  refine .intro nlA (.intro TT_ok Try.func298 rfl rfl [0, 2] rfl ?_)
  conv => whnf
  replace h := bindS h
  obtain ⟨y48, hy48, h⟩ := h
  have c49 := c_slices_ContainsFunc_Vec a0 319 [] [] (fun x0_ => vec_allRight_1 x0_) (fun x0_ r h => c_vec_allRight_1 x0_ r h) nlB _ hy48
  have e := Option.some.inj h
  subst e
  repeat' first | with_reducible rfl | with_reducible exact True.intro | with_reducible assumption | (refine CallP.use c49 ?_; conv => whnf) | exact clA _ | (refine And.intro ?_ ?_ <;> conv => whnf) | exact clG _ | (refine gand ?_ h; assumption) | exact clN _ | fail

theorem m_311_373 : MethodIs Try.prog 311 "footway/vec.rank" 373 := fun v w => by kernel_rfl

def cmp_Or_int_b5  (k5 : Nat) (x5 : Int) (s5 : Unit) : Option (Step Int Unit) :=
  (bif (!decide (x5 = 0)) then
    some (.ret x5)
  else
    some (.nxt ()))

def cmp_Or_int (a0 : (List Int)) : Option Int :=
  aft (rangeL (cmp_Or_int_b5 ) a0 ()) fun s5 =>
  some 0

theorem c_cmp_Or_int (a0 : (List Int)) (r : Int) (h : cmp_Or_int a0 = some r) : CallP Try.prog 277 [(LV.ro 1 (a0.map iC))] (I r) := by
  unfold cmp_Or_int at h
  refine .intro nlA (.intro TT_ok Try.func277 rfl rfl [0, 2, 3, 5, 6, 7, 8, 9, 14] rfl ?_)
  conv => whnf
  repeat' first | with_reducible rfl | with_reducible exact True.intro | with_reducible assumption | refine parkI ?_ | (refine And.intro ?_ ?_ <;> conv => whnf) | fail
  replace h := aftS h
  obtain ⟨O5, hO5, r5⟩ := h
  refine LoopW.norm [(3, (I 0)), (6, (LV.ro 1 (a0.map iC))), (7, (I (((a0.map iC).length : Nat) : Int))), (8, (I ((0 : Nat) : Int)))] 0 [] ⟨rfl, rfl, rfl, rfl, trivial⟩ trivial blT rfl ?_
  refine LoopW.forR (fun k5 s5 => [(3, (I 0)), (6, (LV.ro 1 (a0.map iC))), (7, (I (((a0.map iC).length : Nat) : Int))), (8, (I ((k5 : Nat) : Int)))]) (fun s5 => ⟨0, []⟩) hO5 (fun hl5 s5 hs5 => ?_) (fun hl5 k5 x5 s5 o5 hk5 hx5 b5 K5 hret5 hbrk5 => ?_)
  · rw [hs5] at r5
    dsimp only [aftM] at r5
    have hd : decide (((a0.length : Nat) : Int) < (((a0.map iC).length : Nat) : Int)) = false := by rw [decide_eq_false_iff_not]; (try simp only [se_len, se_ch, List.length_map]); omega
    refine LoopW.round TT_ok [0, 2, 3, 5, 6, 7, 8, 9, 14] ?_
    conv => whnf
    repeat' first | with_reducible rfl | with_reducible exact True.intro | with_reducible assumption | refine parkI ?_ | (refine And.intro ?_ ?_ <;> conv => whnf) | fail
    refine parkE (fun hc => ?_) (fun hc => ?_)
    · exact (Bool.false_ne_true (hd.symm.trans hc)).elim
    · clear hd
      conv => whnf
      have e := Option.some.inj r5
      subst e
      repeat' first | with_reducible rfl | with_reducible exact True.intro | with_reducible assumption | exact clA _ | (refine And.intro ?_ ?_ <;> conv => whnf) | exact clG _ | (refine gand ?_ h; assumption) | exact clN _ | fail
  · unfold cmp_Or_int_b5 at b5
    have hd : decide (((k5 : Nat) : Int) < (((a0.map iC).length : Nat) : Int)) = true := by rw [decide_eq_true_eq]; (try simp only [se_len, se_ch, List.length_map] at hk5); (try simp only [se_len, se_ch, List.length_map]); omega
    refine LoopW.round TT_ok [0, 2, 3, 5, 6, 7, 8, 9, 14] ?_
    conv => whnf
    repeat' first | with_reducible rfl | with_reducible exact True.intro | with_reducible assumption | refine parkI ?_ | (refine And.intro ?_ ?_ <;> conv => whnf) | fail
    refine parkE (fun hc => ?_) (fun hc => ?_)
    · clear hd
      conv => whnf
      repeat' first | with_reducible rfl | with_reducible exact True.intro | with_reducible assumption | refine parkI ?_ | (refine ⟨_, (kixF (f := iC) hx5), ?_⟩; conv => whnf) | (refine And.intro ?_ ?_ <;> conv => whnf) | fail
      refine parkE (fun hc => ?_) (fun hc => ?_)
      · replace b5 := condT hc b5
        conv => whnf
        have e := Option.some.inj b5
        replace e := hret5 _ e.symm
        rw [e] at r5
        replace e := Option.some.inj r5
        subst e
        repeat' first | with_reducible rfl | with_reducible exact True.intro | with_reducible assumption | exact clA _ | (refine And.intro ?_ ?_ <;> conv => whnf) | exact clG _ | (refine gand ?_ h; assumption) | exact clN _ | fail
      · replace b5 := condF hc b5
        conv => whnf
        repeat' first | with_reducible rfl | with_reducible exact True.intro | with_reducible assumption | refine parkI ?_ | (refine And.intro ?_ ?_ <;> conv => whnf) | fail
        have e := Option.some.inj b5
        refine LoopW.norm [(3, (I 0)), (6, (LV.ro 1 (a0.map iC))), (7, (I (((a0.map iC).length : Nat) : Int))), (8, (I ((k5 + 1 : Nat) : Int)))] 0 [] ⟨rfl, rfl, rfl, (congrArg (LV.int .i64) (w64_nat _ (by omega))), trivial⟩ trivial blT rfl (K5 _ e.symm)
    · exact (Bool.false_ne_true (hc.symm.trans hd)).elim

def _vec_one_rank (a0 : vec_oneT) (a1 : vec_oneT) : Option Int :=
  (bif (((decide (a0.Vec.Root = a1.Vec.Root)) && ((decide (a0.Vec.Cost = a1.Vec.Cost)) && ((decide (a0.Vec.Bridge = a1.Vec.Bridge)) && ((decide (a0.Vec.Port = a1.Vec.Port)) && true)))) && true) then
    some 0
  else
    (cmp_Or_int ([(IntKind.i64.wrap (a0.Vec.Root - a1.Vec.Root)), (IntKind.i64.wrap (a0.Vec.Cost - a1.Vec.Cost)), (IntKind.i64.wrap (a0.Vec.Bridge - a1.Vec.Bridge)), (IntKind.i64.wrap (a0.Vec.Port - a1.Vec.Port))] : (List Int))).bind fun y54 =>
    some y54)

theorem c__vec_one_rank (a0 : vec_oneT) (a1 : vec_oneT) (r : Int) (h : _vec_one_rank a0 a1 = some r) : CallP Try.prog 373 [(LV.agg [(I a0.Vec.Root), (I a0.Vec.Cost), (I a0.Vec.Bridge), (I a0.Vec.Port)]), (LV.agg [(I a1.Vec.Root), (I a1.Vec.Cost), (I a1.Vec.Bridge), (I a1.Vec.Port)])] (I r) := by
  unfold _vec_one_rank at h
  refine .intro nlA (.intro TT_ok Try.func373 rfl rfl [0, 1, 2, 3, 4, 7] rfl ?_)
  conv => whnf
  repeat' first | with_reducible rfl | with_reducible exact True.intro | with_reducible assumption | refine parkI ?_ | (refine And.intro ?_ ?_ <;> conv => whnf) | fail
  refine parkE (fun hc => ?_) (fun hc => ?_)
  · replace h := condT hc h
    conv => whnf
    have e := Option.some.inj h
    subst e
    repeat' first | with_reducible rfl | with_reducible exact True.intro | with_reducible assumption | exact clA _ | (refine And.intro ?_ ?_ <;> conv => whnf) | exact clG _ | (refine gand ?_ h; assumption) | exact clN _ | fail
  · replace h := condF hc h
    conv => whnf
    replace h := bindS h
    obtain ⟨y54, hy54, h⟩ := h
    have c55 : CallP Try.prog 277 [(LV.ro 1 [[(I (IntKind.i64.wrap (a0.Vec.Root - a1.Vec.Root)))], [(I (IntKind.i64.wrap (a0.Vec.Cost - a1.Vec.Cost)))], [(I (IntKind.i64.wrap (a0.Vec.Bridge - a1.Vec.Bridge)))], [(I (IntKind.i64.wrap (a0.Vec.Port - a1.Vec.Port)))]])] (I y54) := by first | exact c_cmp_Or_int ([(IntKind.i64.wrap (a0.Vec.Root - a1.Vec.Root)), (IntKind.i64.wrap (a0.Vec.Cost - a1.Vec.Cost)), (IntKind.i64.wrap (a0.Vec.Bridge - a1.Vec.Bridge)), (IntKind.i64.wrap (a0.Vec.Port - a1.Vec.Port))] : (List Int)) _ hy54 | (simpa only [se_map, se_byL, se_len, se_ch, List.length_map] using c_cmp_Or_int ([(IntKind.i64.wrap (a0.Vec.Root - a1.Vec.Root)), (IntKind.i64.wrap (a0.Vec.Cost - a1.Vec.Cost)), (IntKind.i64.wrap (a0.Vec.Bridge - a1.Vec.Bridge)), (IntKind.i64.wrap (a0.Vec.Port - a1.Vec.Port))] : (List Int)) _ hy54)
    have e := Option.some.inj h
    subst e
    repeat' first | with_reducible rfl | with_reducible exact True.intro | with_reducible assumption | (refine CallP.use c55 ?_; conv => whnf) | exact clA _ | (refine And.intro ?_ ?_ <;> conv => whnf) | exact clG _ | (refine gand ?_ h; assumption) | exact clN _ | fail

def vec_ahead_vec_oneT (q0 : vec_oneT) (a1 : vec_oneT) : Option Bool :=
  (_vec_one_rank q0 a1).bind fun y56 =>
  some (decide (y56 < 0))

theorem c_vec_ahead_vec_oneT (q0 : vec_oneT) (a1 : vec_oneT) (r : Bool) (h : vec_ahead_vec_oneT q0 a1 = some r) : CallP Try.prog 256 [(LV.iface 311 (LV.agg [(I q0.Vec.Root), (I q0.Vec.Cost), (I q0.Vec.Bridge), (I q0.Vec.Port)])), (LV.agg [(I a1.Vec.Root), (I a1.Vec.Cost), (I a1.Vec.Bridge), (I a1.Vec.Port)])] (LV.bool r) := by
  unfold vec_ahead_vec_oneT at h
  refine .intro nlA (.intro TT_ok Try.func256 rfl rfl [0, 1, 3, 4] rfl ?_)
  conv => whnf
  replace h := bindS h
  obtain ⟨y56, hy56, h⟩ := h
  have c57 := c__vec_one_rank q0 a1 _ hy56
  have e := Option.some.inj h
  subst e
  repeat' first | with_reducible rfl | with_reducible exact True.intro | with_reducible assumption | (refine ⟨_, m_311_373, CallP.use c57 ?_⟩; conv => whnf) | (refine ⟨_, _, fun _ => ⟨m_311_373, c57⟩, ?_⟩; conv => whnf) | exact clA _ | (refine And.intro ?_ ?_ <;> conv => whnf) | exact clG _ | (refine gand ?_ h; assumption) | exact clN _ | fail

def vec_Best_b4 (a0 : (List VecT)) (k4 : Nat) (x4 : VecT) (s4 : Int) : Option (Step (Int × Int) Int) :=
  (gix a0 s4).bind fun v52 =>
  (vec_ahead_vec_oneT (⟨x4⟩ : vec_oneT) (⟨v52⟩ : vec_oneT)).bind fun y58 =>
  (bif y58 then
    some (.nxt ((k4 : Nat) : Int))
  else
    some (.nxt s4))

def vec_Best (a0 : (List VecT)) : Option (Int × Int) :=
  (vec_allRight a0).bind fun y50 =>
  (bif (!y50) then
    some (0, 1)
  else
    (bif (decide (((a0.length : Nat) : Int) = 0)) then
      some (0, 4)
    else
      aft (rangeL (vec_Best_b4 a0) a0 0) fun s4 =>
      some (s4, 0)))

theorem c_vec_Best (a0 : (List VecT)) (r : (Int × Int)) (h : vec_Best a0 = some r) : CallP Try.prog 246 [(LV.ro 4 (a0.map VecT.cells))] (LV.tup [(I r.1), (I r.2)]) := by
  unfold vec_Best at h
  refine .intro nlA (.intro TT_ok Try.func246 rfl rfl [0, 2, 3, 4, 5, 6, 7, 11, 15, 16, 17, 18, 30] rfl ?_)
  conv => whnf
  replace h := bindS h
  obtain ⟨y50, hy50, h⟩ := h
  have c51 := c_vec_allRight a0 _ hy50
  repeat' first | with_reducible rfl | with_reducible exact True.intro | with_reducible assumption | refine parkI ?_ | (refine CallP.use c51 ?_; conv => whnf) | (refine ⟨_, _, CallP.at c51, ?_⟩; conv => whnf) | (refine ⟨_, fun _ => c51, ?_⟩; conv => whnf) | (refine W.drawn TT_ok hmix1 rfl ?_; conv => whnf) | exact clA _ | (refine And.intro ?_ ?_ <;> conv => whnf) | exact clG _ | (refine gand ?_ h; assumption) | exact clN _ | fail
  refine parkE (fun hc => ?_) (fun hc => ?_)
  · replace h := condT hc h
    conv => whnf
    have e := Option.some.inj h
    subst e
    repeat' first | with_reducible rfl | with_reducible exact True.intro | with_reducible assumption | (refine W.drawn TT_ok hmix1 rfl ?_; conv => whnf) | exact clA _ | (refine And.intro ?_ ?_ <;> conv => whnf) | exact clG _ | (refine gand ?_ h; assumption) | exact clN _ | fail
  · replace h := condF hc h
    conv => whnf
    repeat' first | with_reducible rfl | with_reducible exact True.intro | with_reducible assumption | refine parkI ?_ | (refine W.drawn TT_ok hmix1 rfl ?_; conv => whnf) | exact clA _ | (refine And.intro ?_ ?_ <;> conv => whnf) | exact clG _ | (refine gand ?_ h; assumption) | exact clN _ | fail
    refine parkE (fun hc => ?_) (fun hc => ?_)
    · replace h := condT (by first | exact hc | simpa only [se_len, se_ch, List.length_map] using hc) h
      conv => whnf
      have e := Option.some.inj h
      subst e
      repeat' first | with_reducible rfl | with_reducible exact True.intro | with_reducible assumption | (refine W.drawn TT_ok hmix1 rfl ?_; conv => whnf) | exact clA _ | (refine And.intro ?_ ?_ <;> conv => whnf) | exact clG _ | (refine gand ?_ h; assumption) | exact clN _ | fail
    · replace h := condF (by first | exact hc | simpa only [se_len, se_ch, List.length_map] using hc) h
      conv => whnf
      repeat' first | with_reducible rfl | with_reducible exact True.intro | with_reducible assumption | refine parkI ?_ | (refine W.drawn TT_ok hmix1 rfl ?_; conv => whnf) | exact clA _ | (refine And.intro ?_ ?_ <;> conv => whnf) | exact clG _ | (refine gand ?_ h; assumption) | exact clN _ | fail
      replace h := aftS h
      obtain ⟨O4, hO4, r4⟩ := h
      refine LoopW.norm [(0, (LV.ro 4 (a0.map VecT.cells))), (4, (I 0)), (15, (LV.ro 4 (a0.map VecT.cells))), (16, (I (((a0.map VecT.cells).length : Nat) : Int))), (17, (I ((0 : Nat) : Int)))] 0 [] ⟨rfl, rfl, rfl, rfl, rfl, trivial⟩ trivial blT rfl ?_
      refine LoopW.forR (fun k4 s4 => [(0, (LV.ro 4 (a0.map VecT.cells))), (4, (I s4)), (15, (LV.ro 4 (a0.map VecT.cells))), (16, (I (((a0.map VecT.cells).length : Nat) : Int))), (17, (I ((k4 : Nat) : Int)))]) (fun s4 => ⟨0, []⟩) hO4 (fun hl4 s4 hs4 => ?_) (fun hl4 k4 x4 s4 o4 hk4 hx4 b4 K4 hret4 hbrk4 => ?_)
      · rw [hs4] at r4
        dsimp only [aftM] at r4
        have hd : decide (((a0.length : Nat) : Int) < (((a0.map VecT.cells).length : Nat) : Int)) = false := by rw [decide_eq_false_iff_not]; (try simp only [se_len, se_ch, List.length_map]); omega
        refine LoopW.round TT_ok [0, 2, 3, 4, 5, 6, 7, 11, 15, 16, 17, 18, 30] ?_
        conv => whnf
        repeat' first | with_reducible rfl | with_reducible exact True.intro | with_reducible assumption | refine parkI ?_ | (refine W.drawn TT_ok hmix1 rfl ?_; conv => whnf) | exact clA _ | (refine And.intro ?_ ?_ <;> conv => whnf) | exact clG _ | (refine gand ?_ h; assumption) | exact clN _ | fail
        refine parkE (fun hc => ?_) (fun hc => ?_)
        · exact (Bool.false_ne_true (hd.symm.trans hc)).elim
        · clear hd
          conv => whnf
          have e := Option.some.inj r4
          subst e
          repeat' first | with_reducible rfl | with_reducible exact True.intro | with_reducible assumption | (refine W.drawn TT_ok hmix1 rfl ?_; conv => whnf) | exact clA _ | (refine And.intro ?_ ?_ <;> conv => whnf) | exact clG _ | (refine gand ?_ h; assumption) | exact clN _ | fail
      · unfold vec_Best_b4 at b4
        have hd : decide (((k4 : Nat) : Int) < (((a0.map VecT.cells).length : Nat) : Int)) = true := by rw [decide_eq_true_eq]; (try simp only [se_len, se_ch, List.length_map] at hk4); (try simp only [se_len, se_ch, List.length_map]); omega
        refine LoopW.round TT_ok [0, 2, 3, 4, 5, 6, 7, 11, 15, 16, 17, 18, 30] ?_
        conv => whnf
        repeat' first | with_reducible rfl | with_reducible exact True.intro | with_reducible assumption | refine parkI ?_ | (refine W.drawn TT_ok hmix1 rfl ?_; conv => whnf) | exact clA _ | (refine And.intro ?_ ?_ <;> conv => whnf) | exact clG _ | (refine gand ?_ h; assumption) | exact clN _ | fail
        refine parkE (fun hc => ?_) (fun hc => ?_)
        · clear hd
          conv => whnf
          replace b4 := bindS b4
          obtain ⟨v52, hv52, b4⟩ := b4
          have i53 := gixF (f := VecT.cells) hv52
          replace b4 := bindS b4
          obtain ⟨y58, hy58, b4⟩ := b4
          have c59 : CallP Try.prog 256 [(LV.iface 311 (LV.agg [(I x4.Root), (I x4.Cost), (I x4.Bridge), (I x4.Port)])), (LV.agg [(I v52.Root), (I v52.Cost), (I v52.Bridge), (I v52.Port)])] (LV.bool y58) := by first | exact c_vec_ahead_vec_oneT (⟨x4⟩ : vec_oneT) (⟨v52⟩ : vec_oneT) _ hy58 | (simpa only [se_map, se_byL, se_len, se_ch, List.length_map] using c_vec_ahead_vec_oneT (⟨x4⟩ : vec_oneT) (⟨v52⟩ : vec_oneT) _ hy58) | (simpa only [se_map, se_byL, se_len, se_ch, List.length_map, vec_oneT.cells] using c_vec_ahead_vec_oneT (⟨x4⟩ : vec_oneT) (⟨v52⟩ : vec_oneT) _ hy58)
          repeat' first | with_reducible rfl | with_reducible exact True.intro | with_reducible assumption | refine parkI ?_ | (refine ⟨_, (kixF (f := VecT.cells) hx4), ?_⟩; conv => whnf) | (refine ⟨_, i53, ?_⟩; conv => whnf) | (refine CallP.use c59 ?_; conv => whnf) | (refine ⟨_, _, CallP.at c59, ?_⟩; conv => whnf) | (refine ⟨_, fun _ => c59, ?_⟩; conv => whnf) | (refine W.drawn TT_ok hmix1 rfl ?_; conv => whnf) | exact clA _ | (refine And.intro ?_ ?_ <;> conv => whnf) | exact clG _ | (refine gand ?_ h; assumption) | exact clN _ | fail
          refine parkE (fun hc => ?_) (fun hc => ?_)
          · replace b4 := condT hc b4
            conv => whnf
            repeat' first | with_reducible rfl | with_reducible exact True.intro | with_reducible assumption | refine parkI ?_ | (refine W.drawn TT_ok hmix1 rfl ?_; conv => whnf) | exact clA _ | (refine And.intro ?_ ?_ <;> conv => whnf) | exact clG _ | (refine gand ?_ h; assumption) | exact clN _ | fail
            have e := Option.some.inj b4
            refine LoopW.norm [(0, (LV.ro 4 (a0.map VecT.cells))), (4, (I ((k4 : Nat) : Int))), (15, (LV.ro 4 (a0.map VecT.cells))), (16, (I (((a0.map VecT.cells).length : Nat) : Int))), (17, (I ((k4 + 1 : Nat) : Int)))] 0 [] ⟨rfl, rfl, rfl, rfl, (congrArg (LV.int .i64) (w64_nat _ (by omega))), trivial⟩ trivial blT rfl (K4 _ e.symm)
          · replace b4 := condF hc b4
            conv => whnf
            repeat' first | with_reducible rfl | with_reducible exact True.intro | with_reducible assumption | refine parkI ?_ | (refine W.drawn TT_ok hmix1 rfl ?_; conv => whnf) | exact clA _ | (refine And.intro ?_ ?_ <;> conv => whnf) | exact clG _ | (refine gand ?_ h; assumption) | exact clN _ | fail
            have e := Option.some.inj b4
            refine LoopW.norm [(0, (LV.ro 4 (a0.map VecT.cells))), (4, (I s4)), (15, (LV.ro 4 (a0.map VecT.cells))), (16, (I (((a0.map VecT.cells).length : Nat) : Int))), (17, (I ((k4 + 1 : Nat) : Int)))] 0 [] ⟨rfl, rfl, rfl, rfl, (congrArg (LV.int .i64) (w64_nat _ (by omega))), trivial⟩ trivial blT rfl (K4 _ e.symm)
        · exact (Bool.false_ne_true (hc.symm.trans hd)).elim

def role_wayOf_b2 (a0 : SelfT) (k2 : Nat) (x2 : InfoT) (s2 : ((List Int) × (List VecT))) : Option (Step U_role_way ((List Int) × (List VecT))) :=
  (bif x2.Has then
    grd (fits ((s2.1 ++ ([((k2 : Nat) : Int)] : (List Int))) : List Int).length 8) <|
    (_role_by_vec (⟨((k2 : Nat) : Int)⟩ : role_byT) a0).bind fun y38 =>
    grd (fits ((s2.2 ++ ([y38] : (List VecT))) : List VecT).length 32) <|
    some (.nxt ((s2.1 ++ ([((k2 : Nat) : Int)] : (List Int))), (s2.2 ++ ([y38] : (List VecT)))))
  else
    some (.nxt (s2.1, s2.2)))

def role_wayOf (a0 : SelfT) : Option U_role_way :=
  aft (rangeL (role_wayOf_b2 a0) a0.Infos (([] : (List Int)), ([] : (List VecT)))) fun s2 =>
  (vec_Best s2.2).bind fun y60 =>
  (gd (!(!decide (y60.2 = 0))) (gix s2.2 y60.1)).bind fun v62 =>
  (bif (bif (!decide (y60.2 = 0)) then true else (decide (a0.ID ≤ v62.Root))) then
    some (U_role_way.k0 (⟨⟩ : role_hereT))
  else
    grd ((0 : Int) ≤ y60.1 ∧ y60.1 < ((s2.1.length : Nat) : Int)) <|
    (gixN s2.1 (y60.1 : Int).toNat).bind fun v65 =>
    some (U_role_way.k1 (⟨v65⟩ : role_byT)))

theorem c_role_wayOf (a0 : SelfT) (r : U_role_way) (h : role_wayOf a0 = some r) : CallP Try.prog 192 [(LV.agg [(I a0.ID), (LV.ro 1 (a0.Costs.map iC)), (LV.ro 1 (a0.Ups.map bC)), (LV.ro 6 (a0.Infos.map InfoT.cells))])] (U_role_way.lv r) := by
  unfold role_wayOf at h
  refine .intro (by repeat' first | exact True.intro | exact U_role_way.nl _ | assumption | refine ⟨?_, ?_⟩) (.intro TT_ok Try.func192 rfl rfl [0, 1, 2, 3, 4, 5, 6, 7, 8, 10, 11, 12, 13, 18, 47] rfl ?_)
  conv => whnf
  repeat' first | with_reducible rfl | with_reducible exact True.intro | exact U_role_way.nl _ | with_reducible assumption | refine parkI ?_ | (refine W.drawn TT_ok hmix1 rfl ?_; conv => whnf) | (refine W.drawnM (id := 7) 0 TT_ok hmix1 [0, 0, 0, 1, 0, 0, 0, 0, 2, 2, 3, 4, 4] [1, 0, 1, 2, 3, 2, 2, 2, 2, 3, 4, 4, 4] rfl ?_; conv => whnf) | exact clA _ | (refine And.intro ?_ ?_ <;> conv => whnf) | exact clG _ | (refine gand ?_ h; assumption) | exact clN _ | fail
  replace h := aftS h
  obtain ⟨O2, hO2, r2⟩ := h
  refine LoopW.virt 3 3 1 rfl ?_
  refine LoopW.virt 4 87 4 rfl ?_
  refine LoopW.norm [(1, (LV.ptr 0 0 0)), (3, (LV.sl 1 0 ((([] : (List Int)), ([] : (List VecT))).1.map iC).length)), (4, (LV.sl 2 0 ((([] : (List Int)), ([] : (List VecT))).2.map VecT.cells).length)), (10, (LV.ro 6 (a0.Infos.map InfoT.cells))), (11, (I (((a0.Infos.map InfoT.cells).length : Nat) : Int))), (12, (I ((0 : Nat) : Int)))] 3 [(0, (.row 82 4 [[(I a0.ID), (LV.ro 1 (a0.Costs.map iC)), (LV.ro 1 (a0.Ups.map bC)), (LV.ro 6 (a0.Infos.map InfoT.cells))]])), (1, (.row 3 1 ((([] : (List Int)), ([] : (List VecT))).1.map iC))), (2, (.row 87 4 ((([] : (List Int)), ([] : (List VecT))).2.map VecT.cells)))] ⟨rfl, (by exact congrArg (LV.sl 1 0) (by first | (simp only [se_map, se_byL, se_len, se_ch, List.length_map]; done) | ((try simp only [se_map, se_byL, se_len, se_ch, List.length_map]); (try simp only [se_len, se_ch, List.length_map] at *); omega) : 0 = ((([] : (List Int)), ([] : (List VecT))).1.map iC).length)), (by exact congrArg (LV.sl 2 0) (by first | (simp only [se_map, se_byL, se_len, se_ch, List.length_map]; done) | ((try simp only [se_map, se_byL, se_len, se_ch, List.length_map]); (try simp only [se_len, se_ch, List.length_map] at *); omega) : 0 = ((([] : (List Int)), ([] : (List VecT))).2.map VecT.cells).length)), rfl, rfl, rfl, trivial⟩ ⟨⟨rfl, rfl, (by repeat' first | exact True.intro | exact U_role_way.nl _ | exact rfl | exact NLs_bels (by assumption) | refine ⟨?_, ?_⟩)⟩, ⟨⟨(congrArg (fun q => some (Blk.row 3 1 q)) (by simp only [se_map, se_byL, se_len, se_ch, List.length_map] : ([] : List (List LV)) = ((([] : (List Int)), ([] : (List VecT))).1.map iC))), rfl, NLss_bel (NLss_map' _)⟩, ⟨⟨(congrArg (fun q => some (Blk.row 87 4 q)) (by simp only [se_map, se_byL, se_len, se_ch, List.length_map] : ([] : List (List LV)) = ((([] : (List Int)), ([] : (List VecT))).2.map VecT.cells))), rfl, NLss_bel (NLss_map' _)⟩, trivial⟩⟩⟩ (by repeat' first | exact True.intro | exact U_role_way.nl _ | exact rfl | exact NLs_bels (by assumption) | refine ⟨?_, ?_⟩) rfl ?_
  refine LoopW.forR (fun k2 s2 => [(1, (LV.ptr 0 0 0)), (3, (LV.sl 1 0 (s2.1.map iC).length)), (4, (LV.sl 2 0 (s2.2.map VecT.cells).length)), (10, (LV.ro 6 (a0.Infos.map InfoT.cells))), (11, (I (((a0.Infos.map InfoT.cells).length : Nat) : Int))), (12, (I ((k2 : Nat) : Int)))]) (fun s2 => ⟨3, [(0, (.row 82 4 [[(I a0.ID), (LV.ro 1 (a0.Costs.map iC)), (LV.ro 1 (a0.Ups.map bC)), (LV.ro 6 (a0.Infos.map InfoT.cells))]])), (1, (.row 3 1 (s2.1.map iC))), (2, (.row 87 4 (s2.2.map VecT.cells)))]⟩) hO2 (fun hl2 s2 hs2 => ?_) (fun hl2 k2 x2 s2 o2 hk2 hx2 b2 K2 hret2 hbrk2 => ?_)
  · rw [hs2] at r2
    dsimp only [aftM] at r2
    have hd : decide (((a0.Infos.length : Nat) : Int) < (((a0.Infos.map InfoT.cells).length : Nat) : Int)) = false := by rw [decide_eq_false_iff_not]; (try simp only [se_len, se_ch, List.length_map]); omega
    refine LoopW.round TT_ok [0, 1, 2, 3, 4, 5, 6, 7, 8, 10, 11, 12, 13, 18, 47] ?_
    conv => whnf
    repeat' first | with_reducible rfl | with_reducible exact True.intro | exact U_role_way.nl _ | with_reducible assumption | refine parkI ?_ | (refine W.drawn TT_ok hmix1 rfl ?_; conv => whnf) | (refine W.drawnM (id := 7) 0 TT_ok hmix1 [0, 0, 0, 1, 0, 0, 0, 0, 2, 2, 3, 4, 4] [1, 0, 1, 2, 3, 2, 2, 2, 2, 3, 4, 4, 4] rfl ?_; conv => whnf) | exact clA _ | (refine And.intro ?_ ?_ <;> conv => whnf) | exact clG _ | (refine gand ?_ h; assumption) | exact clN _ | fail
    refine parkE (fun hc => ?_) (fun hc => ?_)
    · exact (Bool.false_ne_true (hd.symm.trans hc)).elim
    · clear hd
      conv => whnf
      replace r2 := bindS r2
      obtain ⟨y60, hy60, r2⟩ := r2
      have c61 := c_vec_Best s2.2 _ hy60
      replace r2 := bindS r2
      obtain ⟨v62, hv62, r2⟩ := r2
      have i63 := fun hg => gixF (f := VecT.cells) (gdS hg hv62)
      repeat' first | with_reducible rfl | with_reducible exact True.intro | exact U_role_way.nl _ | with_reducible assumption | refine parkI ?_ | (refine ⟨_, i63, ?_⟩; conv => whnf) | (refine CallP.use c61 ?_; conv => whnf) | (refine ⟨_, _, CallP.at c61, ?_⟩; conv => whnf) | (refine ⟨_, fun _ => c61, ?_⟩; conv => whnf) | (refine W.drawn TT_ok hmix1 rfl ?_; conv => whnf) | (refine W.drawnM (id := 7) 0 TT_ok hmix1 [0, 0, 0, 1, 0, 0, 0, 0, 2, 2, 3, 4, 4] [1, 0, 1, 2, 3, 2, 2, 2, 2, 3, 4, 4, 4] rfl ?_; conv => whnf) | exact clA _ | (refine And.intro ?_ ?_ <;> conv => whnf) | exact clG _ | (refine gand ?_ h; assumption) | exact clN _ | fail
      refine parkE (fun hc => ?_) (fun hc => ?_)
      · replace r2 := condT hc r2
        conv => whnf
        have e := Option.some.inj r2
        subst e
        repeat' first | with_reducible rfl | with_reducible exact True.intro | exact U_role_way.nl _ | with_reducible assumption | (refine W.drawn TT_ok hmix1 rfl ?_; conv => whnf) | (refine W.drawnM (id := 7) 0 TT_ok hmix1 [0, 0, 0, 1, 0, 0, 0, 0, 2, 2, 3, 4, 4] [1, 0, 1, 2, 3, 2, 2, 2, 2, 3, 4, 4, 4] rfl ?_; conv => whnf) | exact clA _ | (refine And.intro ?_ ?_ <;> conv => whnf) | exact clG _ | (refine gand ?_ h; assumption) | exact clN _ | fail
      · replace r2 := condF hc r2
        conv => whnf
        replace r2 := grdS r2
        obtain ⟨g64, r2⟩ := r2
        replace g64 : (0 : Int) ≤ y60.1 ∧ y60.1 < (((s2.1.map iC).length : Nat) : Int) := by simpa only [se_len, se_ch, List.length_map] using g64
        replace r2 := bindS r2
        obtain ⟨v65, hv65, r2⟩ := r2
        have i66 : nth (s2.1.map iC) (0 + ((y60.1 : Int).toNat)) = some [(I v65)] := by simpa only [se_map, se_len, se_ch, List.length_map, nth_eq, Nat.zero_add, List.getElem?_map] using gixNF (f := iC) hv65
        have e := Option.some.inj r2
        subst e
        repeat' first | with_reducible rfl | with_reducible exact True.intro | exact U_role_way.nl _ | with_reducible assumption | exact g64 | (rw [i66]; conv => whnf) | (refine W.drawn TT_ok hmix1 rfl ?_; conv => whnf) | (refine W.drawnM (id := 7) 0 TT_ok hmix1 [0, 0, 0, 1, 0, 0, 0, 0, 2, 2, 3, 4, 4] [1, 0, 1, 2, 3, 2, 2, 2, 2, 3, 4, 4, 4] rfl ?_; conv => whnf) | exact clA _ | (refine And.intro ?_ ?_ <;> conv => whnf) | exact clG _ | (refine gand ?_ h; assumption) | exact clN _ | fail
  · unfold role_wayOf_b2 at b2
    have hd : decide (((k2 : Nat) : Int) < (((a0.Infos.map InfoT.cells).length : Nat) : Int)) = true := by rw [decide_eq_true_eq]; (try simp only [se_len, se_ch, List.length_map] at hk2); (try simp only [se_len, se_ch, List.length_map]); omega
    refine LoopW.round TT_ok [0, 1, 2, 3, 4, 5, 6, 7, 8, 10, 11, 12, 13, 18, 47] ?_
    conv => whnf
    repeat' first | with_reducible rfl | with_reducible exact True.intro | exact U_role_way.nl _ | with_reducible assumption | refine parkI ?_ | (refine W.drawn TT_ok hmix1 rfl ?_; conv => whnf) | (refine W.drawnM (id := 7) 0 TT_ok hmix1 [0, 0, 0, 1, 0, 0, 0, 0, 2, 2, 3, 4, 4] [1, 0, 1, 2, 3, 2, 2, 2, 2, 3, 4, 4, 4] rfl ?_; conv => whnf) | exact clA _ | (refine And.intro ?_ ?_ <;> conv => whnf) | exact clG _ | (refine gand ?_ h; assumption) | exact clN _ | fail
    refine parkE (fun hc => ?_) (fun hc => ?_)
    · clear hd
      conv => whnf
      repeat' first | with_reducible rfl | with_reducible exact True.intro | exact U_role_way.nl _ | with_reducible assumption | refine parkI ?_ | (refine ⟨_, (kixF (f := InfoT.cells) hx2), ?_⟩; conv => whnf) | (refine W.drawn TT_ok hmix1 rfl ?_; conv => whnf) | (refine W.drawnM (id := 7) 0 TT_ok hmix1 [0, 0, 0, 1, 0, 0, 0, 0, 2, 2, 3, 4, 4] [1, 0, 1, 2, 3, 2, 2, 2, 2, 3, 4, 4, 4] rfl ?_; conv => whnf) | exact clA _ | (refine And.intro ?_ ?_ <;> conv => whnf) | exact clG _ | (refine gand ?_ h; assumption) | exact clN _ | fail
      refine parkE (fun hc => ?_) (fun hc => ?_)
      · replace b2 := condT hc b2
        conv => whnf
        replace b2 := grdS b2
        obtain ⟨g27, b2⟩ := b2
        replace g27 : fits (((s2.1.map iC) ++ [[(I ((k2 : Nat) : Int))]])).length 8 := by simpa only [se_len, se_ch, List.length_map] using g27
        replace b2 := bindS b2
        obtain ⟨y38, hy38, b2⟩ := b2
        have c39 : CallP Try.prog 264 [(LV.agg [(I ((k2 : Nat) : Int))]), (LV.agg [(I a0.ID), (LV.ro 1 (a0.Costs.map iC)), (LV.ro 1 (a0.Ups.map bC)), (LV.ro 6 (a0.Infos.map InfoT.cells))])] (LV.agg [(I y38.Root), (I y38.Cost), (I y38.Bridge), (I y38.Port)]) := by first | exact c__role_by_vec (⟨((k2 : Nat) : Int)⟩ : role_byT) a0 _ hy38 | (simpa only [se_map, se_byL, se_len, se_ch, List.length_map] using c__role_by_vec (⟨((k2 : Nat) : Int)⟩ : role_byT) a0 _ hy38) | (simpa only [se_map, se_byL, se_len, se_ch, List.length_map, role_byT.cells] using c__role_by_vec (⟨((k2 : Nat) : Int)⟩ : role_byT) a0 _ hy38)
        replace b2 := grdS b2
        obtain ⟨g40, b2⟩ := b2
        replace g40 : fits (((s2.2.map VecT.cells) ++ [[(I y38.Root), (I y38.Cost), (I y38.Bridge), (I y38.Port)]])).length 32 := by simpa only [se_len, se_ch, List.length_map] using g40
        repeat' first | with_reducible rfl | with_reducible exact True.intro | exact U_role_way.nl _ | with_reducible assumption | refine parkI ?_ | exact g27 | exact g40 | (refine CallP.use c39 ?_; conv => whnf) | (refine ⟨_, _, CallP.at c39, ?_⟩; conv => whnf) | (refine ⟨_, fun _ => c39, ?_⟩; conv => whnf) | (refine W.drawn TT_ok hmix1 rfl ?_; conv => whnf) | (refine W.drawnM (id := 7) 0 TT_ok hmix1 [0, 0, 0, 1, 0, 0, 0, 0, 2, 2, 3, 4, 4] [1, 0, 1, 2, 3, 2, 2, 2, 2, 3, 4, 4, 4] rfl ?_; conv => whnf) | exact clA _ | (refine And.intro ?_ ?_ <;> conv => whnf) | exact clG _ | (refine gand ?_ h; assumption) | exact clN _ | fail
        have e := Option.some.inj b2
        refine LoopW.ren [(0, 0), (5, 1), (7, 2)] [(1, (LV.ptr 0 0 0)), (3, (LV.sl 1 0 (((s2.1 ++ ([((k2 : Nat) : Int)] : (List Int))), (s2.2 ++ ([y38] : (List VecT)))).1.map iC).length)), (4, (LV.sl 2 0 (((s2.1 ++ ([((k2 : Nat) : Int)] : (List Int))), (s2.2 ++ ([y38] : (List VecT)))).2.map VecT.cells).length)), (10, (LV.ro 6 (a0.Infos.map InfoT.cells))), (11, (I (((a0.Infos.map InfoT.cells).length : Nat) : Int))), (12, (I ((k2 + 1 : Nat) : Int)))] 3 [(0, (.row 82 4 [[(I a0.ID), (LV.ro 1 (a0.Costs.map iC)), (LV.ro 1 (a0.Ups.map bC)), (LV.ro 6 (a0.Infos.map InfoT.cells))]])), (1, (.row 3 1 (((s2.1 ++ ([((k2 : Nat) : Int)] : (List Int))), (s2.2 ++ ([y38] : (List VecT)))).1.map iC))), (2, (.row 87 4 (((s2.1 ++ ([((k2 : Nat) : Int)] : (List Int))), (s2.2 ++ ([y38] : (List VecT)))).2.map VecT.cells)))] rfl ⟨rfl, (by exact congrArg (LV.sl 1 0) (by first | (simp only [se_map, se_byL, se_len, se_ch, List.length_map]; done) | ((try simp only [se_map, se_byL, se_len, se_ch, List.length_map]); (try simp only [se_len, se_ch, List.length_map] at *); omega) : (((s2.1.map iC) ++ [[(I ((k2 : Nat) : Int))]])).length = (((s2.1 ++ ([((k2 : Nat) : Int)] : (List Int))), (s2.2 ++ ([y38] : (List VecT)))).1.map iC).length)), (by exact congrArg (LV.sl 2 0) (by first | (simp only [se_map, se_byL, se_len, se_ch, List.length_map]; done) | ((try simp only [se_map, se_byL, se_len, se_ch, List.length_map]); (try simp only [se_len, se_ch, List.length_map] at *); omega) : (((s2.2.map VecT.cells) ++ [[(I y38.Root), (I y38.Cost), (I y38.Bridge), (I y38.Port)]])).length = (((s2.1 ++ ([((k2 : Nat) : Int)] : (List Int))), (s2.2 ++ ([y38] : (List VecT)))).2.map VecT.cells).length)), rfl, rfl, (congrArg (LV.int .i64) (w64_nat _ (by omega))), trivial⟩ ⟨⟨rfl, rfl, .inl ⟨rfl, (by repeat' first | exact NLss_map' _ | refine NLss_app ?_ ?_ | refine NLss_set ?_ ?_ | refine NLss_rep ?_ | refine NLss_take ?_ | refine NLss_drop ?_ | exact True.intro | exact U_role_way.nl _ | refine ⟨?_, ?_⟩)⟩⟩, rfl, rfl, ⟨⟨rfl, rfl, .inl ⟨(by simp only [se_map, se_byL, se_len, se_ch, List.length_map] : (((s2.1.map iC) ++ [[(I ((k2 : Nat) : Int))]]) : List (List LV)) = (((s2.1 ++ ([((k2 : Nat) : Int)] : (List Int))), (s2.2 ++ ([y38] : (List VecT)))).1.map iC)), (by repeat' first | exact NLss_map' _ | refine NLss_app ?_ ?_ | refine NLss_set ?_ ?_ | refine NLss_rep ?_ | refine NLss_take ?_ | refine NLss_drop ?_ | exact True.intro | exact U_role_way.nl _ | refine ⟨?_, ?_⟩)⟩⟩, rfl, rfl, ⟨⟨rfl, rfl, .inl ⟨(by simp only [se_map, se_byL, se_len, se_ch, List.length_map] : (((s2.2.map VecT.cells) ++ [[(I y38.Root), (I y38.Cost), (I y38.Bridge), (I y38.Port)]]) : List (List LV)) = (((s2.1 ++ ([((k2 : Nat) : Int)] : (List Int))), (s2.2 ++ ([y38] : (List VecT)))).2.map VecT.cells)), (by repeat' first | exact NLss_map' _ | refine NLss_app ?_ ?_ | refine NLss_set ?_ ?_ | refine NLss_rep ?_ | refine NLss_take ?_ | refine NLss_drop ?_ | exact True.intro | exact U_role_way.nl _ | refine ⟨?_, ?_⟩)⟩⟩, rfl, rfl, trivial⟩⟩⟩ rfl (K2 _ e.symm)
      · replace b2 := condF hc b2
        conv => whnf
        repeat' first | with_reducible rfl | with_reducible exact True.intro | exact U_role_way.nl _ | with_reducible assumption | refine parkI ?_ | (refine W.drawn TT_ok hmix1 rfl ?_; conv => whnf) | (refine W.drawnM (id := 7) 0 TT_ok hmix1 [0, 0, 0, 1, 0, 0, 0, 0, 2, 2, 3, 4, 4] [1, 0, 1, 2, 3, 2, 2, 2, 2, 3, 4, 4, 4] rfl ?_; conv => whnf) | exact clA _ | (refine And.intro ?_ ?_ <;> conv => whnf) | exact clG _ | (refine gand ?_ h; assumption) | exact clN _ | fail
        have e := Option.some.inj b2
        refine LoopW.norm [(1, (LV.ptr 0 0 0)), (3, (LV.sl 1 0 ((s2.1, s2.2).1.map iC).length)), (4, (LV.sl 2 0 ((s2.1, s2.2).2.map VecT.cells).length)), (10, (LV.ro 6 (a0.Infos.map InfoT.cells))), (11, (I (((a0.Infos.map InfoT.cells).length : Nat) : Int))), (12, (I ((k2 + 1 : Nat) : Int)))] 3 [(0, (.row 82 4 [[(I a0.ID), (LV.ro 1 (a0.Costs.map iC)), (LV.ro 1 (a0.Ups.map bC)), (LV.ro 6 (a0.Infos.map InfoT.cells))]])), (1, (.row 3 1 ((s2.1, s2.2).1.map iC))), (2, (.row 87 4 ((s2.1, s2.2).2.map VecT.cells)))] ⟨rfl, (by exact congrArg (LV.sl 1 0) (by first | (simp only [se_map, se_byL, se_len, se_ch, List.length_map]; done) | ((try simp only [se_map, se_byL, se_len, se_ch, List.length_map]); (try simp only [se_len, se_ch, List.length_map] at *); omega) : (s2.1.map iC).length = ((s2.1, s2.2).1.map iC).length)), (by exact congrArg (LV.sl 2 0) (by first | (simp only [se_map, se_byL, se_len, se_ch, List.length_map]; done) | ((try simp only [se_map, se_byL, se_len, se_ch, List.length_map]); (try simp only [se_len, se_ch, List.length_map] at *); omega) : (s2.2.map VecT.cells).length = ((s2.1, s2.2).2.map VecT.cells).length)), rfl, rfl, (congrArg (LV.int .i64) (w64_nat _ (by omega))), trivial⟩ ⟨⟨rfl, rfl, (by repeat' first | exact True.intro | exact U_role_way.nl _ | exact rfl | exact NLs_bels (by assumption) | refine ⟨?_, ?_⟩)⟩, ⟨⟨(congrArg (fun q => some (Blk.row 3 1 q)) (by simp only [se_map, se_byL, se_len, se_ch, List.length_map] : ((s2.1.map iC) : List (List LV)) = ((s2.1, s2.2).1.map iC))), rfl, NLss_bel (NLss_map' _)⟩, ⟨⟨(congrArg (fun q => some (Blk.row 87 4 q)) (by simp only [se_map, se_byL, se_len, se_ch, List.length_map] : ((s2.2.map VecT.cells) : List (List LV)) = ((s2.1, s2.2).2.map VecT.cells))), rfl, NLss_bel (NLss_map' _)⟩, trivial⟩⟩⟩ (by repeat' first | exact True.intro | exact U_role_way.nl _ | exact rfl | exact NLs_bels (by assumption) | refine ⟨?_, ?_⟩) rfl (K2 _ e.symm)
    · exact (Bool.false_ne_true (hc.symm.trans hd)).elim

def role_portOf (a0 : SelfT) (a1 : U_role_way) : Option (Int × Int) :=
  (match a1 with
  | .k0 u0_ =>
    some ((-1), 0)
  | .k1 u0_ =>
    (gix a0.Infos u0_.port).bind fun v69 =>
    some (u0_.port, (IntKind.i64.wrap (v69.Age + 1))))

theorem c_role_portOf (a0 : SelfT) (a1 : U_role_way) (r : (Int × Int)) (h : role_portOf a0 a1 = some r) : CallP Try.prog 193 [(LV.agg [(I a0.ID), (LV.ro 1 (a0.Costs.map iC)), (LV.ro 1 (a0.Ups.map bC)), (LV.ro 6 (a0.Infos.map InfoT.cells))]), (U_role_way.lv a1)] (LV.tup [(I r.1), (I r.2)]) := by
  unfold role_portOf at h
  refine .intro (by repeat' first | exact True.intro | exact U_role_way.nl _ | assumption | refine ⟨?_, ?_⟩) (.intro TT_ok Try.func193 rfl rfl [0, 1, 2, 4, 5, 6, 7, 9, 10] rfl ?_)
  conv => whnf
  rcases a1 with u0_ | u0_
  · dsimp only at h
    conv => whnf
    repeat' first | with_reducible rfl | with_reducible exact True.intro | exact U_role_way.nl _ | with_reducible assumption | refine parkI ?_ | (refine W.drawn TT_ok hmix1 rfl ?_; conv => whnf) | exact clA _ | (refine And.intro ?_ ?_ <;> conv => whnf) | exact clG _ | (refine gand ?_ h; assumption) | exact clN _ | fail
    refine parkE (fun hc => ?_) (fun hc => ?_)
    · exact (Bool.false_ne_true (((rfl : false = false)).symm.trans hc)).elim
    · conv => whnf
      have e := Option.some.inj h
      subst e
      repeat' first | with_reducible rfl | with_reducible exact True.intro | exact U_role_way.nl _ | with_reducible assumption | (refine W.drawn TT_ok hmix1 rfl ?_; conv => whnf) | exact clA _ | (refine And.intro ?_ ?_ <;> conv => whnf) | exact clG _ | (refine gand ?_ h; assumption) | exact clN _ | fail
  · dsimp only at h
    conv => whnf
    repeat' first | with_reducible rfl | with_reducible exact True.intro | exact U_role_way.nl _ | with_reducible assumption | refine parkI ?_ | (refine W.drawn TT_ok hmix1 rfl ?_; conv => whnf) | exact clA _ | (refine And.intro ?_ ?_ <;> conv => whnf) | exact clG _ | (refine gand ?_ h; assumption) | exact clN _ | fail
    refine parkE (fun hc => ?_) (fun hc => ?_)
    · conv => whnf
      replace h := bindS h
      obtain ⟨v69, hv69, h⟩ := h
      have i70 := gixF (f := InfoT.cells) hv69
      have e := Option.some.inj h
      subst e
      repeat' first | with_reducible rfl | with_reducible exact True.intro | exact U_role_way.nl _ | with_reducible assumption | (refine ⟨_, i70, ?_⟩; conv => whnf) | (refine W.drawn TT_ok hmix1 rfl ?_; conv => whnf) | exact clA _ | (refine And.intro ?_ ?_ <;> conv => whnf) | exact clG _ | (refine gand ?_ h; assumption) | exact clN _ | fail
    · exact (Bool.false_ne_true (hc.symm.trans (rfl : true = true))).elim

theorem m_321_374 : MethodIs Try.prog 321 "footway/role.vec" 374 := fun v w => by kernel_rfl

def _role_here_vec (a0 : role_hereT) (a1 : SelfT) : Option VecT :=
  some (⟨a1.ID, 0, a1.ID, 0⟩ : VecT)

theorem c__role_here_vec (a0 : role_hereT) (a1 : SelfT) (r : VecT) (h : _role_here_vec a0 a1 = some r) : CallP Try.prog 374 [(LV.agg []), (LV.agg [(I a1.ID), (LV.ro 1 (a1.Costs.map iC)), (LV.ro 1 (a1.Ups.map bC)), (LV.ro 6 (a1.Infos.map InfoT.cells))])] (LV.agg [(I r.Root), (I r.Cost), (I r.Bridge), (I r.Port)]) := by
  unfold _role_here_vec at h
  refine .intro nlA (.intro TT_ok Try.func374 rfl rfl [0, 1, 3, 4] rfl ?_)
  conv => whnf
  have e := Option.some.inj h
  subst e
  repeat' first | with_reducible rfl | with_reducible exact True.intro | with_reducible assumption | exact clA _ | (refine And.intro ?_ ?_ <;> conv => whnf) | exact clG _ | (refine gand ?_ h; assumption) | exact clN _ | fail

theorem m_318_264 : MethodIs Try.prog 318 "footway/role.vec" 264 := fun v w => by kernel_rfl

def role_tells (a0 : SelfT) (a1 : U_role_way) (a2 : Int) : Option VecT :=
  (match a1 with
  | .k0 u0_ =>
    (_role_here_vec (⟨⟩ : role_hereT) a0).bind fun y75 =>
    some (⟨y75.Root, y75.Cost, a0.ID, a2⟩ : VecT)
  | .k1 u0_ =>
    (_role_by_vec u0_ a0).bind fun y75 =>
    some (⟨y75.Root, y75.Cost, a0.ID, a2⟩ : VecT))

theorem c_role_tells (a0 : SelfT) (a1 : U_role_way) (a2 : Int) (r : VecT) (h : role_tells a0 a1 a2 = some r) : CallP Try.prog 194 [(LV.agg [(I a0.ID), (LV.ro 1 (a0.Costs.map iC)), (LV.ro 1 (a0.Ups.map bC)), (LV.ro 6 (a0.Infos.map InfoT.cells))]), (U_role_way.lv a1), (I a2)] (LV.agg [(I r.Root), (I r.Cost), (I r.Bridge), (I r.Port)]) := by
  unfold role_tells at h
  refine .intro (by repeat' first | exact True.intro | exact U_role_way.nl _ | assumption | refine ⟨?_, ?_⟩) (.intro TT_ok Try.func194 rfl rfl [0, 1, 2, 3, 6, 7] rfl ?_)
  conv => whnf
  rcases a1 with u0_ | u0_
  · dsimp only at h
    conv => whnf
    replace h := bindS h
    obtain ⟨y75, hy75, h⟩ := h
    have c76 := c__role_here_vec (⟨⟩ : role_hereT) a0 _ hy75
    have e := Option.some.inj h
    subst e
    repeat' first | with_reducible rfl | with_reducible exact True.intro | exact U_role_way.nl _ | with_reducible assumption | (refine ⟨_, m_321_374, CallP.use c76 ?_⟩; conv => whnf) | (refine ⟨_, _, fun _ => ⟨m_321_374, c76⟩, ?_⟩; conv => whnf) | exact clA _ | (refine And.intro ?_ ?_ <;> conv => whnf) | exact clG _ | (refine gand ?_ h; assumption) | exact clN _ | fail
  · dsimp only at h
    conv => whnf
    replace h := bindS h
    obtain ⟨y75, hy75, h⟩ := h
    have c76 := c__role_by_vec u0_ a0 _ hy75
    have e := Option.some.inj h
    subst e
    repeat' first | with_reducible rfl | with_reducible exact True.intro | exact U_role_way.nl _ | with_reducible assumption | (refine ⟨_, m_318_264, CallP.use c76 ?_⟩; conv => whnf) | (refine ⟨_, _, fun _ => ⟨m_318_264, c76⟩, ?_⟩; conv => whnf) | exact clA _ | (refine And.intro ?_ ?_ <;> conv => whnf) | exact clG _ | (refine gand ?_ h; assumption) | exact clN _ | fail

def vec_Better (a0 : VecT) (a1 : VecT) : Option (Bool × Int) :=
  (vec_Right a0).bind fun y79 =>
  (gd (!(!y79)) (vec_Right a1)).bind fun y81 =>
  (bif (bif (!y79) then true else (!y81)) then
    some (false, 1)
  else
    (vec_ahead_vec_oneT (⟨a0⟩ : vec_oneT) (⟨a1⟩ : vec_oneT)).bind fun y83 =>
    some (y83, 0))

theorem c_vec_Better (a0 : VecT) (a1 : VecT) (r : (Bool × Int)) (h : vec_Better a0 a1 = some r) : CallP Try.prog 168 [(LV.agg [(I a0.Root), (I a0.Cost), (I a0.Bridge), (I a0.Port)]), (LV.agg [(I a1.Root), (I a1.Cost), (I a1.Bridge), (I a1.Port)])] (LV.tup [(LV.bool r.1), (I r.2)]) := by
  unfold vec_Better at h
  refine .intro nlA (.intro TT_ok Try.func168 rfl rfl [0, 1, 2, 3, 4, 5, 13] rfl ?_)
  conv => whnf
  replace h := bindS h
  obtain ⟨y79, hy79, h⟩ := h
  have c80 := c_vec_Right a0 _ hy79
  replace h := bindS h
  obtain ⟨y81, hy81, h⟩ := h
  have c82 := fun (hg : (!(!y79)) = true) => c_vec_Right a1 _ (gdS hg hy81)
  repeat' first | with_reducible rfl | with_reducible exact True.intro | with_reducible assumption | refine parkI ?_ | (refine ⟨_, c82, ?_⟩; conv => whnf) | (refine CallP.use c80 ?_; conv => whnf) | exact clA _ | (refine And.intro ?_ ?_ <;> conv => whnf) | exact clG _ | (refine gand ?_ h; assumption) | fail
  refine parkE (fun hc => ?_) (fun hc => ?_)
  · replace h := condT hc h
    conv => whnf
    have e := Option.some.inj h
    subst e
    repeat' first | with_reducible rfl | with_reducible exact True.intro | with_reducible assumption | exact clA _ | (refine And.intro ?_ ?_ <;> conv => whnf) | exact clG _ | (refine gand ?_ h; assumption) | exact clN _ | fail
  · replace h := condF hc h
    conv => whnf
    replace h := bindS h
    obtain ⟨y83, hy83, h⟩ := h
    have c84 : CallP Try.prog 256 [(LV.iface 311 (LV.agg [(I a0.Root), (I a0.Cost), (I a0.Bridge), (I a0.Port)])), (LV.agg [(I a1.Root), (I a1.Cost), (I a1.Bridge), (I a1.Port)])] (LV.bool y83) := by first | exact c_vec_ahead_vec_oneT (⟨a0⟩ : vec_oneT) (⟨a1⟩ : vec_oneT) _ hy83 | (simpa only [se_map, se_byL, se_len, se_ch, List.length_map] using c_vec_ahead_vec_oneT (⟨a0⟩ : vec_oneT) (⟨a1⟩ : vec_oneT) _ hy83) | (simpa only [se_map, se_byL, se_len, se_ch, List.length_map, vec_oneT.cells] using c_vec_ahead_vec_oneT (⟨a0⟩ : vec_oneT) (⟨a1⟩ : vec_oneT) _ hy83)
    have e := Option.some.inj h
    subst e
    repeat' first | with_reducible rfl | with_reducible exact True.intro | with_reducible assumption | (refine CallP.use c84 ?_; conv => whnf) | exact clA _ | (refine And.intro ?_ ?_ <;> conv => whnf) | exact clG _ | (refine gand ?_ h; assumption) | exact clN _ | fail

def role_role (a0 : SelfT) (a1 : U_role_way) (a2 : Int) : Option Int :=
  (match a1 with
  | .k0 u0_ =>
    (role_portOf a0 (U_role_way.k0 (⟨⟩ : role_hereT))).bind fun y71 =>
    (gix a0.Infos a2).bind fun v73 =>
    (role_tells a0 (U_role_way.k0 (⟨⟩ : role_hereT)) a2).bind fun y77 =>
    (vec_Better v73.Vec y77).bind fun y85 =>
    (gix a0.Ups a2).bind fun v87 =>
    (bif (!v87) then
      some 3
    else
      (bif (decide (a2 = y71.1)) then
        some 0
      else
        (bif (bif v73.Has then y85.1 else false) then
          some 2
        else
          some 1)))
  | .k1 u0_ =>
    (role_portOf a0 (U_role_way.k1 u0_)).bind fun y69 =>
    (gix a0.Infos a2).bind fun v71 =>
    (role_tells a0 (U_role_way.k1 u0_) a2).bind fun y73 =>
    (vec_Better v71.Vec y73).bind fun y75 =>
    (gix a0.Ups a2).bind fun v77 =>
    (bif (!v77) then
      some 3
    else
      (bif (decide (a2 = y69.1)) then
        some 0
      else
        (bif (bif v71.Has then y75.1 else false) then
          some 2
        else
          some 1))))

theorem c_role_role (a0 : SelfT) (a1 : U_role_way) (a2 : Int) (r : Int) (h : role_role a0 a1 a2 = some r) : CallP Try.prog 257 [(LV.agg [(I a0.ID), (LV.ro 1 (a0.Costs.map iC)), (LV.ro 1 (a0.Ups.map bC)), (LV.ro 6 (a0.Infos.map InfoT.cells))]), (U_role_way.lv a1), (I a2)] (I r) := by
  unfold role_role at h
  refine .intro (by repeat' first | exact True.intro | exact U_role_way.nl _ | assumption | refine ⟨?_, ?_⟩) (.intro TT_ok Try.func257 rfl rfl [0, 1, 2, 3, 6, 7, 9, 31, 38, 42] rfl ?_)
  conv => whnf
  rcases a1 with u0_ | u0_
  · dsimp only at h
    conv => whnf
    replace h := bindS h
    obtain ⟨y71, hy71, h⟩ := h
    have c72 : CallP Try.prog 193 [(LV.agg [(I a0.ID), (LV.ro 1 (a0.Costs.map iC)), (LV.ro 1 (a0.Ups.map bC)), (LV.ro 6 (a0.Infos.map InfoT.cells))]), (LV.iface 321 (LV.agg []))] (LV.tup [(I y71.1), (I y71.2)]) := by first | exact c_role_portOf a0 (U_role_way.k0 (⟨⟩ : role_hereT)) _ hy71 | (simpa only [se_map, se_byL, se_len, se_ch, List.length_map] using c_role_portOf a0 (U_role_way.k0 (⟨⟩ : role_hereT)) _ hy71) | (simpa only [se_map, se_byL, se_len, se_ch, List.length_map, role_hereT.cells] using c_role_portOf a0 (U_role_way.k0 (⟨⟩ : role_hereT)) _ hy71)
    replace h := bindS h
    obtain ⟨v73, hv73, h⟩ := h
    have i74 := gixF (f := InfoT.cells) hv73
    replace h := bindS h
    obtain ⟨y77, hy77, h⟩ := h
    have c78 : CallP Try.prog 194 [(LV.agg [(I a0.ID), (LV.ro 1 (a0.Costs.map iC)), (LV.ro 1 (a0.Ups.map bC)), (LV.ro 6 (a0.Infos.map InfoT.cells))]), (LV.iface 321 (LV.agg [])), (I a2)] (LV.agg [(I y77.Root), (I y77.Cost), (I y77.Bridge), (I y77.Port)]) := by first | exact c_role_tells a0 (U_role_way.k0 (⟨⟩ : role_hereT)) a2 _ hy77 | (simpa only [se_map, se_byL, se_len, se_ch, List.length_map] using c_role_tells a0 (U_role_way.k0 (⟨⟩ : role_hereT)) a2 _ hy77) | (simpa only [se_map, se_byL, se_len, se_ch, List.length_map, role_hereT.cells] using c_role_tells a0 (U_role_way.k0 (⟨⟩ : role_hereT)) a2 _ hy77)
    replace h := bindS h
    obtain ⟨y85, hy85, h⟩ := h
    have c86 := c_vec_Better v73.Vec y77 _ hy85
    replace h := bindS h
    obtain ⟨v87, hv87, h⟩ := h
    have i88 := gixF (f := bC) hv87
    repeat' first | with_reducible rfl | with_reducible exact True.intro | exact U_role_way.nl _ | with_reducible assumption | refine parkI ?_ | (refine ⟨_, i74, ?_⟩; conv => whnf) | (refine ⟨_, i88, ?_⟩; conv => whnf) | (refine CallP.use c72 ?_; conv => whnf) | (refine ⟨_, _, CallP.at c72, ?_⟩; conv => whnf) | (refine ⟨_, fun _ => c72, ?_⟩; conv => whnf) | (refine CallP.use c78 ?_; conv => whnf) | (refine ⟨_, _, CallP.at c78, ?_⟩; conv => whnf) | (refine ⟨_, fun _ => c78, ?_⟩; conv => whnf) | (refine CallP.use c86 ?_; conv => whnf) | (refine ⟨_, _, CallP.at c86, ?_⟩; conv => whnf) | (refine ⟨_, fun _ => c86, ?_⟩; conv => whnf) | (refine W.drawn TT_ok hmix1 rfl ?_; conv => whnf) | exact clA _ | (refine And.intro ?_ ?_ <;> conv => whnf) | exact clG _ | (refine gand ?_ h; assumption) | exact clN _ | fail
    refine parkE (fun hc => ?_) (fun hc => ?_)
    · replace h := condT hc h
      conv => whnf
      have e := Option.some.inj h
      subst e
      repeat' first | with_reducible rfl | with_reducible exact True.intro | exact U_role_way.nl _ | with_reducible assumption | (refine W.drawn TT_ok hmix1 rfl ?_; conv => whnf) | exact clA _ | (refine And.intro ?_ ?_ <;> conv => whnf) | exact clG _ | (refine gand ?_ h; assumption) | exact clN _ | fail
    · replace h := condF hc h
      conv => whnf
      repeat' first | with_reducible rfl | with_reducible exact True.intro | exact U_role_way.nl _ | with_reducible assumption | refine parkI ?_ | (refine W.drawn TT_ok hmix1 rfl ?_; conv => whnf) | exact clA _ | (refine And.intro ?_ ?_ <;> conv => whnf) | exact clG _ | (refine gand ?_ h; assumption) | exact clN _ | fail
      refine parkE (fun hc => ?_) (fun hc => ?_)
      · replace h := condT hc h
        conv => whnf
        have e := Option.some.inj h
        subst e
        repeat' first | with_reducible rfl | with_reducible exact True.intro | exact U_role_way.nl _ | with_reducible assumption | (refine W.drawn TT_ok hmix1 rfl ?_; conv => whnf) | exact clA _ | (refine And.intro ?_ ?_ <;> conv => whnf) | exact clG _ | (refine gand ?_ h; assumption) | exact clN _ | fail
      · replace h := condF hc h
        conv => whnf
        repeat' first | with_reducible rfl | with_reducible exact True.intro | exact U_role_way.nl _ | with_reducible assumption | refine parkI ?_ | (refine ⟨_, i74, ?_⟩; conv => whnf) | (refine W.drawn TT_ok hmix1 rfl ?_; conv => whnf) | exact clA _ | (refine And.intro ?_ ?_ <;> conv => whnf) | exact clG _ | (refine gand ?_ h; assumption) | exact clN _ | fail
        refine parkE (fun hc => ?_) (fun hc => ?_)
        · replace h := condT hc h
          conv => whnf
          have e := Option.some.inj h
          subst e
          repeat' first | with_reducible rfl | with_reducible exact True.intro | exact U_role_way.nl _ | with_reducible assumption | (refine W.drawn TT_ok hmix1 rfl ?_; conv => whnf) | exact clA _ | (refine And.intro ?_ ?_ <;> conv => whnf) | exact clG _ | (refine gand ?_ h; assumption) | exact clN _ | fail
        · replace h := condF hc h
          conv => whnf
          have e := Option.some.inj h
          subst e
          repeat' first | with_reducible rfl | with_reducible exact True.intro | exact U_role_way.nl _ | with_reducible assumption | (refine W.drawn TT_ok hmix1 rfl ?_; conv => whnf) | exact clA _ | (refine And.intro ?_ ?_ <;> conv => whnf) | exact clG _ | (refine gand ?_ h; assumption) | exact clN _ | fail
  · dsimp only at h
    conv => whnf
    replace h := bindS h
    obtain ⟨y69, hy69, h⟩ := h
    have c70 : CallP Try.prog 193 [(LV.agg [(I a0.ID), (LV.ro 1 (a0.Costs.map iC)), (LV.ro 1 (a0.Ups.map bC)), (LV.ro 6 (a0.Infos.map InfoT.cells))]), (LV.iface 318 (LV.agg [(I u0_.port)]))] (LV.tup [(I y69.1), (I y69.2)]) := by first | exact c_role_portOf a0 (U_role_way.k1 u0_) _ hy69 | (simpa only [se_map, se_byL, se_len, se_ch, List.length_map] using c_role_portOf a0 (U_role_way.k1 u0_) _ hy69)
    replace h := bindS h
    obtain ⟨v71, hv71, h⟩ := h
    have i72 := gixF (f := InfoT.cells) hv71
    replace h := bindS h
    obtain ⟨y73, hy73, h⟩ := h
    have c74 : CallP Try.prog 194 [(LV.agg [(I a0.ID), (LV.ro 1 (a0.Costs.map iC)), (LV.ro 1 (a0.Ups.map bC)), (LV.ro 6 (a0.Infos.map InfoT.cells))]), (LV.iface 318 (LV.agg [(I u0_.port)])), (I a2)] (LV.agg [(I y73.Root), (I y73.Cost), (I y73.Bridge), (I y73.Port)]) := by first | exact c_role_tells a0 (U_role_way.k1 u0_) a2 _ hy73 | (simpa only [se_map, se_byL, se_len, se_ch, List.length_map] using c_role_tells a0 (U_role_way.k1 u0_) a2 _ hy73)
    replace h := bindS h
    obtain ⟨y75, hy75, h⟩ := h
    have c76 := c_vec_Better v71.Vec y73 _ hy75
    replace h := bindS h
    obtain ⟨v77, hv77, h⟩ := h
    have i78 := gixF (f := bC) hv77
    repeat' first | with_reducible rfl | with_reducible exact True.intro | exact U_role_way.nl _ | with_reducible assumption | refine parkI ?_ | (refine ⟨_, i72, ?_⟩; conv => whnf) | (refine ⟨_, i78, ?_⟩; conv => whnf) | (refine CallP.use c70 ?_; conv => whnf) | (refine ⟨_, _, CallP.at c70, ?_⟩; conv => whnf) | (refine ⟨_, fun _ => c70, ?_⟩; conv => whnf) | (refine CallP.use c74 ?_; conv => whnf) | (refine ⟨_, _, CallP.at c74, ?_⟩; conv => whnf) | (refine ⟨_, fun _ => c74, ?_⟩; conv => whnf) | (refine CallP.use c76 ?_; conv => whnf) | (refine ⟨_, _, CallP.at c76, ?_⟩; conv => whnf) | (refine ⟨_, fun _ => c76, ?_⟩; conv => whnf) | (refine W.drawn TT_ok hmix1 rfl ?_; conv => whnf) | exact clA _ | (refine And.intro ?_ ?_ <;> conv => whnf) | exact clG _ | (refine gand ?_ h; assumption) | exact clN _ | fail
    refine parkE (fun hc => ?_) (fun hc => ?_)
    · replace h := condT hc h
      conv => whnf
      have e := Option.some.inj h
      subst e
      repeat' first | with_reducible rfl | with_reducible exact True.intro | exact U_role_way.nl _ | with_reducible assumption | (refine W.drawn TT_ok hmix1 rfl ?_; conv => whnf) | exact clA _ | (refine And.intro ?_ ?_ <;> conv => whnf) | exact clG _ | (refine gand ?_ h; assumption) | exact clN _ | fail
    · replace h := condF hc h
      conv => whnf
      repeat' first | with_reducible rfl | with_reducible exact True.intro | exact U_role_way.nl _ | with_reducible assumption | refine parkI ?_ | (refine W.drawn TT_ok hmix1 rfl ?_; conv => whnf) | exact clA _ | (refine And.intro ?_ ?_ <;> conv => whnf) | exact clG _ | (refine gand ?_ h; assumption) | exact clN _ | fail
      refine parkE (fun hc => ?_) (fun hc => ?_)
      · replace h := condT hc h
        conv => whnf
        have e := Option.some.inj h
        subst e
        repeat' first | with_reducible rfl | with_reducible exact True.intro | exact U_role_way.nl _ | with_reducible assumption | (refine W.drawn TT_ok hmix1 rfl ?_; conv => whnf) | exact clA _ | (refine And.intro ?_ ?_ <;> conv => whnf) | exact clG _ | (refine gand ?_ h; assumption) | exact clN _ | fail
      · replace h := condF hc h
        conv => whnf
        repeat' first | with_reducible rfl | with_reducible exact True.intro | exact U_role_way.nl _ | with_reducible assumption | refine parkI ?_ | (refine ⟨_, i72, ?_⟩; conv => whnf) | (refine W.drawn TT_ok hmix1 rfl ?_; conv => whnf) | exact clA _ | (refine And.intro ?_ ?_ <;> conv => whnf) | exact clG _ | (refine gand ?_ h; assumption) | exact clN _ | fail
        refine parkE (fun hc => ?_) (fun hc => ?_)
        · replace h := condT hc h
          conv => whnf
          have e := Option.some.inj h
          subst e
          repeat' first | with_reducible rfl | with_reducible exact True.intro | exact U_role_way.nl _ | with_reducible assumption | (refine W.drawn TT_ok hmix1 rfl ?_; conv => whnf) | exact clA _ | (refine And.intro ?_ ?_ <;> conv => whnf) | exact clG _ | (refine gand ?_ h; assumption) | exact clN _ | fail
        · replace h := condF hc h
          conv => whnf
          have e := Option.some.inj h
          subst e
          repeat' first | with_reducible rfl | with_reducible exact True.intro | exact U_role_way.nl _ | with_reducible assumption | (refine W.drawn TT_ok hmix1 rfl ?_; conv => whnf) | exact clA _ | (refine And.intro ?_ ?_ <;> conv => whnf) | exact clG _ | (refine gand ?_ h; assumption) | exact clN _ | fail

def role_Roles_b6 (a0 : SelfT) (k6 : Nat) (x6 : Int) (s6 : (List Int)) : Option (Step ((List Int) × Int) (List Int)) :=
  (role_role a0 (U_role_way.k0 (⟨⟩ : role_hereT)) ((k6 : Nat) : Int)).bind fun y79 =>
  grd (fits ((s6 ++ ([y79] : (List Int))) : List Int).length 8) <|
  some (.nxt (s6 ++ ([y79] : (List Int))))

def role_Roles_b7 (a0 : SelfT) (u1_ : role_byT) (k7 : Nat) (x7 : Int) (s7 : (List Int)) : Option (Step ((List Int) × Int) (List Int)) :=
  (role_role a0 (U_role_way.k1 u1_) ((k7 : Nat) : Int)).bind fun y69 =>
  grd (fits ((s7 ++ ([y69] : (List Int))) : List Int).length 8) <|
  some (.nxt (s7 ++ ([y69] : (List Int))))

def role_Roles (a0 : SelfT) : Option ((List Int) × Int) :=
  (role_Right a0).bind fun y25 =>
  (bif (!y25) then
    some ([], 1)
  else
    (role_wayOf a0).bind fun y67 =>
    (match y67 with
    | .k0 u1_ =>
      aft (rangeL (role_Roles_b6 a0) a0.Costs ([] : (List Int))) fun s6 =>
      some (s6, 0)
    | .k1 u1_ =>
      aft (rangeL (role_Roles_b7 a0 u1_) a0.Costs ([] : (List Int))) fun s7 =>
      some (s7, 0)))

theorem c_role_Roles (a0 : SelfT) (r : ((List Int) × Int)) (h : role_Roles a0 = some r) : CallP Try.prog 170 [(LV.agg [(I a0.ID), (LV.ro 1 (a0.Costs.map iC)), (LV.ro 1 (a0.Ups.map bC)), (LV.ro 6 (a0.Infos.map InfoT.cells))])] (LV.tup [(LV.ro 1 (r.1.map iC)), (I r.2)]) := by
  unfold role_Roles at h
  refine .intro nlA (.intro TT_ok Try.func170 rfl rfl [0, 1, 2, 3, 4, 5, 6, 9, 14, 15, 16] rfl ?_)
  conv => whnf
  replace h := bindS h
  obtain ⟨y25, hy25, h⟩ := h
  have c26 := c_role_Right a0 _ hy25
  repeat' first | with_reducible rfl | with_reducible exact True.intro | with_reducible assumption | refine parkI ?_ | (refine CallP.use c26 ?_; conv => whnf) | (refine And.intro ?_ ?_ <;> conv => whnf) | fail
  refine parkE (fun hc => ?_) (fun hc => ?_)
  · replace h := condT hc h
    conv => whnf
    have e := Option.some.inj h
    subst e
    repeat' first | with_reducible rfl | with_reducible exact True.intro | with_reducible assumption | exact clA _ | (refine And.intro ?_ ?_ <;> conv => whnf) | exact clG _ | (refine gand ?_ h; assumption) | exact clN _ | fail
  · replace h := condF hc h
    conv => whnf
    replace h := bindS h
    obtain ⟨y67, hy67, h⟩ := h
    have c68 := c_role_wayOf a0 _ hy67
    repeat' first | with_reducible rfl | with_reducible exact True.intro | with_reducible assumption | refine parkI ?_ | (refine CallP.use c68 ?_; conv => whnf) | (refine And.intro ?_ ?_ <;> conv => whnf) | fail
    rcases y67 with u1_ | u1_
    · dsimp only at h
      conv => whnf
      repeat' first | with_reducible rfl | with_reducible exact True.intro | with_reducible assumption | refine parkI ?_ | (refine And.intro ?_ ?_ <;> conv => whnf) | fail
      replace h := aftS h
      obtain ⟨O6, hO6, r6⟩ := h
      refine LoopW.virt 5 3 1 rfl ?_
      refine LoopW.norm [(1, (LV.ptr 0 0 0)), (4, (LV.iface 321 (LV.agg []))), (5, (LV.sl 1 0 (([] : (List Int)).map iC).length)), (14, (I (((a0.Costs.map iC).length : Nat) : Int))), (15, (I ((0 : Nat) : Int)))] 2 [(0, (.row 82 4 [[(I a0.ID), (LV.ro 1 (a0.Costs.map iC)), (LV.ro 1 (a0.Ups.map bC)), (LV.ro 6 (a0.Infos.map InfoT.cells))]])), (1, (.row 3 1 (([] : (List Int)).map iC)))] ⟨rfl, rfl, (by exact congrArg (LV.sl 1 0) (clL _ : 0 = (([] : (List Int)).map iC).length)), rfl, rfl, trivial⟩ ⟨⟨rfl, rfl, blT⟩, ⟨⟨(congrArg (fun q => some (Blk.row 3 1 q)) (smT : ([] : List (List LV)) = (([] : (List Int)).map iC))), rfl, NLss_bel (NLss_map' _)⟩, trivial⟩⟩ blT rfl ?_
      refine LoopW.forR (fun k6 s6 => [(1, (LV.ptr 0 0 0)), (4, (LV.iface 321 (LV.agg []))), (5, (LV.sl 1 0 (s6.map iC).length)), (14, (I (((a0.Costs.map iC).length : Nat) : Int))), (15, (I ((k6 : Nat) : Int)))]) (fun s6 => ⟨2, [(0, (.row 82 4 [[(I a0.ID), (LV.ro 1 (a0.Costs.map iC)), (LV.ro 1 (a0.Ups.map bC)), (LV.ro 6 (a0.Infos.map InfoT.cells))]])), (1, (.row 3 1 (s6.map iC)))]⟩) hO6 (fun hl6 s6 hs6 => ?_) (fun hl6 k6 x6 s6 o6 hk6 hx6 b6 K6 hret6 hbrk6 => ?_)
      · rw [hs6] at r6
        dsimp only [aftM] at r6
        have hd : decide (((a0.Costs.length : Nat) : Int) < (((a0.Costs.map iC).length : Nat) : Int)) = false := by rw [decide_eq_false_iff_not]; (try simp only [se_len, se_ch, List.length_map]); omega
        refine LoopW.round TT_ok [0, 1, 2, 3, 4, 5, 6, 9, 14, 15, 16] ?_
        conv => whnf
        repeat' first | with_reducible rfl | with_reducible exact True.intro | with_reducible assumption | refine parkI ?_ | (refine And.intro ?_ ?_ <;> conv => whnf) | fail
        refine parkE (fun hc => ?_) (fun hc => ?_)
        · exact (Bool.false_ne_true (hd.symm.trans hc)).elim
        · clear hd
          conv => whnf
          have e := Option.some.inj r6
          subst e
          repeat' first | with_reducible rfl | with_reducible exact True.intro | with_reducible assumption | exact clA _ | (refine And.intro ?_ ?_ <;> conv => whnf) | exact clG _ | (refine gand ?_ h; assumption) | exact clN _ | fail
      · unfold role_Roles_b6 at b6
        have hd : decide (((k6 : Nat) : Int) < (((a0.Costs.map iC).length : Nat) : Int)) = true := by rw [decide_eq_true_eq]; (try simp only [se_len, se_ch, List.length_map] at hk6); (try simp only [se_len, se_ch, List.length_map]); omega
        refine LoopW.round TT_ok [0, 1, 2, 3, 4, 5, 6, 9, 14, 15, 16] ?_
        conv => whnf
        repeat' first | with_reducible rfl | with_reducible exact True.intro | with_reducible assumption | refine parkI ?_ | (refine And.intro ?_ ?_ <;> conv => whnf) | fail
        refine parkE (fun hc => ?_) (fun hc => ?_)
        · clear hd
          conv => whnf
          replace b6 := bindS b6
          obtain ⟨y79, hy79, b6⟩ := b6
          have c80 : CallP Try.prog 257 [(LV.agg [(I a0.ID), (LV.ro 1 (a0.Costs.map iC)), (LV.ro 1 (a0.Ups.map bC)), (LV.ro 6 (a0.Infos.map InfoT.cells))]), (LV.iface 321 (LV.agg [])), (I ((k6 : Nat) : Int))] (I y79) := by first | exact c_role_role a0 (U_role_way.k0 (⟨⟩ : role_hereT)) ((k6 : Nat) : Int) _ hy79 | (simpa only [se_map, se_byL, se_len, se_ch, List.length_map] using c_role_role a0 (U_role_way.k0 (⟨⟩ : role_hereT)) ((k6 : Nat) : Int) _ hy79) | (simpa only [se_map, se_byL, se_len, se_ch, List.length_map, role_hereT.cells] using c_role_role a0 (U_role_way.k0 (⟨⟩ : role_hereT)) ((k6 : Nat) : Int) _ hy79)
          replace b6 := grdS b6
          obtain ⟨g81, b6⟩ := b6
          replace g81 : fits (((s6.map iC) ++ [[(I y79)]])).length 8 := by simpa only [se_len, se_ch, List.length_map] using g81
          repeat' first | with_reducible rfl | with_reducible exact True.intro | with_reducible assumption | refine parkI ?_ | exact g81 | (refine CallP.use c80 ?_; conv => whnf) | exact clA _ | (refine And.intro ?_ ?_ <;> conv => whnf) | exact clN _ | fail
          have e := Option.some.inj b6
          refine LoopW.ren [(0, 0), (3, 1)] [(1, (LV.ptr 0 0 0)), (4, (LV.iface 321 (LV.agg []))), (5, (LV.sl 1 0 ((s6 ++ ([y79] : (List Int))).map iC).length)), (14, (I (((a0.Costs.map iC).length : Nat) : Int))), (15, (I ((k6 + 1 : Nat) : Int)))] 2 [(0, (.row 82 4 [[(I a0.ID), (LV.ro 1 (a0.Costs.map iC)), (LV.ro 1 (a0.Ups.map bC)), (LV.ro 6 (a0.Infos.map InfoT.cells))]])), (1, (.row 3 1 ((s6 ++ ([y79] : (List Int))).map iC)))] rfl ⟨rfl, rfl, (by exact congrArg (LV.sl 1 0) (clL _ : (((s6.map iC) ++ [[(I y79)]])).length = ((s6 ++ ([y79] : (List Int))).map iC).length)), rfl, (congrArg (LV.int .i64) (w64_nat _ (by omega))), trivial⟩ ⟨⟨rfl, rfl, .inl ⟨rfl, nlT⟩⟩, rfl, rfl, ⟨⟨rfl, rfl, .inl ⟨(smT : (((s6.map iC) ++ [[(I y79)]]) : List (List LV)) = ((s6 ++ ([y79] : (List Int))).map iC)), nlT⟩⟩, rfl, rfl, trivial⟩⟩ rfl (K6 _ e.symm)
        · exact (Bool.false_ne_true (hc.symm.trans hd)).elim
    · dsimp only at h
      conv => whnf
      repeat' first | with_reducible rfl | with_reducible exact True.intro | with_reducible assumption | refine parkI ?_ | (refine And.intro ?_ ?_ <;> conv => whnf) | fail
      replace h := aftS h
      obtain ⟨O7, hO7, r7⟩ := h
      refine LoopW.virt 5 3 1 rfl ?_
      refine LoopW.norm [(1, (LV.ptr 0 0 0)), (4, (LV.iface 318 (LV.agg [(I u1_.port)]))), (5, (LV.sl 1 0 (([] : (List Int)).map iC).length)), (14, (I (((a0.Costs.map iC).length : Nat) : Int))), (15, (I ((0 : Nat) : Int)))] 2 [(0, (.row 82 4 [[(I a0.ID), (LV.ro 1 (a0.Costs.map iC)), (LV.ro 1 (a0.Ups.map bC)), (LV.ro 6 (a0.Infos.map InfoT.cells))]])), (1, (.row 3 1 (([] : (List Int)).map iC)))] ⟨rfl, rfl, (by exact congrArg (LV.sl 1 0) (clL _ : 0 = (([] : (List Int)).map iC).length)), rfl, rfl, trivial⟩ ⟨⟨rfl, rfl, blT⟩, ⟨⟨(congrArg (fun q => some (Blk.row 3 1 q)) (smT : ([] : List (List LV)) = (([] : (List Int)).map iC))), rfl, NLss_bel (NLss_map' _)⟩, trivial⟩⟩ blT rfl ?_
      refine LoopW.forR (fun k7 s7 => [(1, (LV.ptr 0 0 0)), (4, (LV.iface 318 (LV.agg [(I u1_.port)]))), (5, (LV.sl 1 0 (s7.map iC).length)), (14, (I (((a0.Costs.map iC).length : Nat) : Int))), (15, (I ((k7 : Nat) : Int)))]) (fun s7 => ⟨2, [(0, (.row 82 4 [[(I a0.ID), (LV.ro 1 (a0.Costs.map iC)), (LV.ro 1 (a0.Ups.map bC)), (LV.ro 6 (a0.Infos.map InfoT.cells))]])), (1, (.row 3 1 (s7.map iC)))]⟩) hO7 (fun hl7 s7 hs7 => ?_) (fun hl7 k7 x7 s7 o7 hk7 hx7 b7 K7 hret7 hbrk7 => ?_)
      · rw [hs7] at r7
        dsimp only [aftM] at r7
        have hd : decide (((a0.Costs.length : Nat) : Int) < (((a0.Costs.map iC).length : Nat) : Int)) = false := by rw [decide_eq_false_iff_not]; (try simp only [se_len, se_ch, List.length_map]); omega
        refine LoopW.round TT_ok [0, 1, 2, 3, 4, 5, 6, 9, 14, 15, 16] ?_
        conv => whnf
        repeat' first | with_reducible rfl | with_reducible exact True.intro | with_reducible assumption | refine parkI ?_ | (refine And.intro ?_ ?_ <;> conv => whnf) | fail
        refine parkE (fun hc => ?_) (fun hc => ?_)
        · exact (Bool.false_ne_true (hd.symm.trans hc)).elim
        · clear hd
          conv => whnf
          have e := Option.some.inj r7
          subst e
          repeat' first | with_reducible rfl | with_reducible exact True.intro | with_reducible assumption | exact clA _ | (refine And.intro ?_ ?_ <;> conv => whnf) | exact clG _ | (refine gand ?_ h; assumption) | exact clN _ | fail
      · unfold role_Roles_b7 at b7
        have hd : decide (((k7 : Nat) : Int) < (((a0.Costs.map iC).length : Nat) : Int)) = true := by rw [decide_eq_true_eq]; (try simp only [se_len, se_ch, List.length_map] at hk7); (try simp only [se_len, se_ch, List.length_map]); omega
        refine LoopW.round TT_ok [0, 1, 2, 3, 4, 5, 6, 9, 14, 15, 16] ?_
        conv => whnf
        repeat' first | with_reducible rfl | with_reducible exact True.intro | with_reducible assumption | refine parkI ?_ | (refine And.intro ?_ ?_ <;> conv => whnf) | fail
        refine parkE (fun hc => ?_) (fun hc => ?_)
        · clear hd
          conv => whnf
          replace b7 := bindS b7
          obtain ⟨y69, hy69, b7⟩ := b7
          have c70 : CallP Try.prog 257 [(LV.agg [(I a0.ID), (LV.ro 1 (a0.Costs.map iC)), (LV.ro 1 (a0.Ups.map bC)), (LV.ro 6 (a0.Infos.map InfoT.cells))]), (LV.iface 318 (LV.agg [(I u1_.port)])), (I ((k7 : Nat) : Int))] (I y69) := by first | exact c_role_role a0 (U_role_way.k1 u1_) ((k7 : Nat) : Int) _ hy69 | (simpa only [se_map, se_byL, se_len, se_ch, List.length_map] using c_role_role a0 (U_role_way.k1 u1_) ((k7 : Nat) : Int) _ hy69)
          replace b7 := grdS b7
          obtain ⟨g71, b7⟩ := b7
          replace g71 : fits (((s7.map iC) ++ [[(I y69)]])).length 8 := by simpa only [se_len, se_ch, List.length_map] using g71
          repeat' first | with_reducible rfl | with_reducible exact True.intro | with_reducible assumption | refine parkI ?_ | exact g71 | (refine CallP.use c70 ?_; conv => whnf) | exact clA _ | (refine And.intro ?_ ?_ <;> conv => whnf) | exact clN _ | fail
          have e := Option.some.inj b7
          refine LoopW.ren [(0, 0), (3, 1)] [(1, (LV.ptr 0 0 0)), (4, (LV.iface 318 (LV.agg [(I u1_.port)]))), (5, (LV.sl 1 0 ((s7 ++ ([y69] : (List Int))).map iC).length)), (14, (I (((a0.Costs.map iC).length : Nat) : Int))), (15, (I ((k7 + 1 : Nat) : Int)))] 2 [(0, (.row 82 4 [[(I a0.ID), (LV.ro 1 (a0.Costs.map iC)), (LV.ro 1 (a0.Ups.map bC)), (LV.ro 6 (a0.Infos.map InfoT.cells))]])), (1, (.row 3 1 ((s7 ++ ([y69] : (List Int))).map iC)))] rfl ⟨rfl, rfl, (by exact congrArg (LV.sl 1 0) (clL _ : (((s7.map iC) ++ [[(I y69)]])).length = ((s7 ++ ([y69] : (List Int))).map iC).length)), rfl, (congrArg (LV.int .i64) (w64_nat _ (by omega))), trivial⟩ ⟨⟨rfl, rfl, .inl ⟨rfl, nlT⟩⟩, rfl, rfl, ⟨⟨rfl, rfl, .inl ⟨(smT : (((s7.map iC) ++ [[(I y69)]]) : List (List LV)) = ((s7 ++ ([y69] : (List Int))).map iC)), nlT⟩⟩, rfl, rfl, trivial⟩⟩ rfl (K7 _ e.symm)
        · exact (Bool.false_ne_true (hc.symm.trans hd)).elim

def port_Right (a0 : PortStateT) (a1 : Int) : Option Bool :=
  (bif (decide (a0.State = 1)) then
    (bif (decide (a0.State = 1)) then
      some (bif (bif (bif (decide (1 ≤ a1)) then (decide (a1 ≤ 30)) else false) then (decide (a0.Left ≤ a1)) else false) then (decide ((mn a1 1) ≤ a0.Left)) else false)
    else
      (bif (decide (a0.State = 0)) then
        (bif (decide (a0.State = 0)) then
          some (bif (bif (bif (decide (1 ≤ a1)) then (decide (a1 ≤ 30)) else false) then (decide (a0.Left ≤ 0)) else false) then (decide ((mn 0 1) ≤ a0.Left)) else false)
        else
          some false)
      else
        (bif (decide (a0.State = 3)) then
          some (bif (bif (bif (decide (1 ≤ a1)) then (decide (a1 ≤ 30)) else false) then (decide (a0.Left ≤ 0)) else false) then (decide ((mn 0 1) ≤ a0.Left)) else false)
        else
          some false)))
  else
    (bif (decide (a0.State = 2)) then
      some (bif (bif (bif (decide (1 ≤ a1)) then (decide (a1 ≤ 30)) else false) then (decide (a0.Left ≤ a1)) else false) then (decide ((mn a1 1) ≤ a0.Left)) else false)
    else
      (bif (decide (a0.State = 0)) then
        (bif (decide (a0.State = 0)) then
          some (bif (bif (bif (decide (1 ≤ a1)) then (decide (a1 ≤ 30)) else false) then (decide (a0.Left ≤ 0)) else false) then (decide ((mn 0 1) ≤ a0.Left)) else false)
        else
          some false)
      else
        (bif (decide (a0.State = 3)) then
          some (bif (bif (bif (decide (1 ≤ a1)) then (decide (a1 ≤ 30)) else false) then (decide (a0.Left ≤ 0)) else false) then (decide ((mn 0 1) ≤ a0.Left)) else false)
        else
          some false))))

theorem c_port_Right (a0 : PortStateT) (a1 : Int) (r : Bool) (h : port_Right a0 a1 = some r) : CallP Try.prog 171 [(LV.agg [(I a0.State), (I a0.Left)]), (I a1)] (LV.bool r) := by
  unfold port_Right at h
  refine .intro nlA (.intro TT_ok Try.func171 rfl rfl [0, 1, 2, 4, 5, 7, 8, 11] rfl ?_)
  conv => whnf
  repeat' first | with_reducible rfl | with_reducible exact True.intro | with_reducible assumption | refine parkI ?_ | (refine And.intro ?_ ?_ <;> conv => whnf) | fail
  refine parkE (fun hc => ?_) (fun hc => ?_)
  · replace h := condT hc h
    conv => whnf
    repeat' first | with_reducible rfl | with_reducible exact True.intro | with_reducible assumption | refine parkI ?_ | (refine And.intro ?_ ?_ <;> conv => whnf) | fail
    refine parkE (fun hc => ?_) (fun hc => ?_)
    · replace h := condT hc h
      conv => whnf
      have e := Option.some.inj h
      subst e
      repeat' first | with_reducible rfl | with_reducible exact True.intro | with_reducible assumption | exact clA _ | (refine And.intro ?_ ?_ <;> conv => whnf) | exact clG _ | (refine gand ?_ h; assumption) | exact clN _ | fail
    · replace h := condF hc h
      conv => whnf
      repeat' first | with_reducible rfl | with_reducible exact True.intro | with_reducible assumption | refine parkI ?_ | (refine And.intro ?_ ?_ <;> conv => whnf) | fail
      refine parkE (fun hc => ?_) (fun hc => ?_)
      · replace h := condT hc h
        conv => whnf
        repeat' first | with_reducible rfl | with_reducible exact True.intro | with_reducible assumption | refine parkI ?_ | (refine And.intro ?_ ?_ <;> conv => whnf) | fail
        refine parkE (fun hc => ?_) (fun hc => ?_)
        · replace h := condT hc h
          conv => whnf
          have e := Option.some.inj h
          subst e
          repeat' first | with_reducible rfl | with_reducible exact True.intro | with_reducible assumption | exact clA _ | (refine And.intro ?_ ?_ <;> conv => whnf) | exact clG _ | (refine gand ?_ h; assumption) | exact clN _ | fail
        · replace h := condF hc h
          conv => whnf
          have e := Option.some.inj h
          subst e
          repeat' first | with_reducible rfl | with_reducible exact True.intro | with_reducible assumption | exact clA _ | (refine And.intro ?_ ?_ <;> conv => whnf) | exact clG _ | (refine gand ?_ h; assumption) | exact clN _ | fail
      · replace h := condF hc h
        conv => whnf
        repeat' first | with_reducible rfl | with_reducible exact True.intro | with_reducible assumption | refine parkI ?_ | (refine And.intro ?_ ?_ <;> conv => whnf) | fail
        refine parkE (fun hc => ?_) (fun hc => ?_)
        · replace h := condT hc h
          conv => whnf
          have e := Option.some.inj h
          subst e
          repeat' first | with_reducible rfl | with_reducible exact True.intro | with_reducible assumption | exact clA _ | (refine And.intro ?_ ?_ <;> conv => whnf) | exact clG _ | (refine gand ?_ h; assumption) | exact clN _ | fail
        · replace h := condF hc h
          conv => whnf
          have e := Option.some.inj h
          subst e
          repeat' first | with_reducible rfl | with_reducible exact True.intro | with_reducible assumption | exact clA _ | (refine And.intro ?_ ?_ <;> conv => whnf) | exact clG _ | (refine gand ?_ h; assumption) | exact clN _ | fail
  · replace h := condF hc h
    conv => whnf
    repeat' first | with_reducible rfl | with_reducible exact True.intro | with_reducible assumption | refine parkI ?_ | (refine And.intro ?_ ?_ <;> conv => whnf) | fail
    refine parkE (fun hc => ?_) (fun hc => ?_)
    · replace h := condT hc h
      conv => whnf
      have e := Option.some.inj h
      subst e
      repeat' first | with_reducible rfl | with_reducible exact True.intro | with_reducible assumption | exact clA _ | (refine And.intro ?_ ?_ <;> conv => whnf) | exact clG _ | (refine gand ?_ h; assumption) | exact clN _ | fail
    · replace h := condF hc h
      conv => whnf
      repeat' first | with_reducible rfl | with_reducible exact True.intro | with_reducible assumption | refine parkI ?_ | (refine And.intro ?_ ?_ <;> conv => whnf) | fail
      refine parkE (fun hc => ?_) (fun hc => ?_)
      · replace h := condT hc h
        conv => whnf
        repeat' first | with_reducible rfl | with_reducible exact True.intro | with_reducible assumption | refine parkI ?_ | (refine And.intro ?_ ?_ <;> conv => whnf) | fail
        refine parkE (fun hc => ?_) (fun hc => ?_)
        · replace h := condT hc h
          conv => whnf
          have e := Option.some.inj h
          subst e
          repeat' first | with_reducible rfl | with_reducible exact True.intro | with_reducible assumption | exact clA _ | (refine And.intro ?_ ?_ <;> conv => whnf) | exact clG _ | (refine gand ?_ h; assumption) | exact clN _ | fail
        · replace h := condF hc h
          conv => whnf
          have e := Option.some.inj h
          subst e
          repeat' first | with_reducible rfl | with_reducible exact True.intro | with_reducible assumption | exact clA _ | (refine And.intro ?_ ?_ <;> conv => whnf) | exact clG _ | (refine gand ?_ h; assumption) | exact clN _ | fail
      · replace h := condF hc h
        conv => whnf
        repeat' first | with_reducible rfl | with_reducible exact True.intro | with_reducible assumption | refine parkI ?_ | (refine And.intro ?_ ?_ <;> conv => whnf) | fail
        refine parkE (fun hc => ?_) (fun hc => ?_)
        · replace h := condT hc h
          conv => whnf
          have e := Option.some.inj h
          subst e
          repeat' first | with_reducible rfl | with_reducible exact True.intro | with_reducible assumption | exact clA _ | (refine And.intro ?_ ?_ <;> conv => whnf) | exact clG _ | (refine gand ?_ h; assumption) | exact clN _ | fail
        · replace h := condF hc h
          conv => whnf
          have e := Option.some.inj h
          subst e
          repeat' first | with_reducible rfl | with_reducible exact True.intro | with_reducible assumption | exact clA _ | (refine And.intro ?_ ?_ <;> conv => whnf) | exact clG _ | (refine gand ?_ h; assumption) | exact clN _ | fail

def stp_isActive (a0 : Int) : Option Bool :=
  some (bif (decide (a0 = 0)) then true else (decide (a0 = 1)))

theorem c_stp_isActive (a0 : Int) (r : Bool) (h : stp_isActive a0 = some r) : CallP Try.prog 172 [(I a0)] (LV.bool r) := by
  unfold stp_isActive at h
  refine .intro nlA (.intro TT_ok Try.func172 rfl rfl [0, 2] rfl ?_)
  conv => whnf
  have e := Option.some.inj h
  subst e
  repeat' first | with_reducible rfl | with_reducible exact True.intro | with_reducible assumption | exact clA _ | (refine And.intro ?_ ?_ <;> conv => whnf) | exact clG _ | (refine gand ?_ h; assumption) | exact clN _ | fail

def stp_Right_b8 (a0 : StpT) (y72 : ((List Int) × Int)) (k8 : Nat) (x8 : PortStateT) (s8 : Unit) : Option (Step Bool Unit) :=
  (port_Right x8 a0.Delay).bind fun y74 =>
  (gd (!(!y74)) (gix y72.1 ((k8 : Nat) : Int))).bind fun v76 =>
  (gd (!(!y74)) (stp_isActive v76)).bind fun y78 =>
  (gd (!(bif (!y74) then true else (!(y78 == (!decide (x8.State = 0)))))) (gix a0.Self.Infos ((k8 : Nat) : Int))).bind fun v80 =>
  (bif (bif (bif (!y74) then true else (!(y78 == (!decide (x8.State = 0))))) then true else (decide (a0.Max ≤ v80.Age))) then
    some (.ret false)
  else
    some (.nxt ()))

def stp_Right (a0 : StpT) : Option Bool :=
  (role_Roles a0.Self).bind fun y72 =>
  (bif (bif (bif (bif (!decide (y72.2 = 0)) then true else (!decide (((a0.States.length : Nat) : Int) = ((y72.1.length : Nat) : Int)))) then true else (decide (a0.Max < 1))) then true else (decide (255 < a0.Max))) then
    some false
  else
    aft (rangeL (stp_Right_b8 a0 y72) a0.States ()) fun s8 =>
    some true)

theorem c_stp_Right (a0 : StpT) (r : Bool) (h : stp_Right a0 = some r) : CallP Try.prog 56 [(LV.agg [(I a0.Self.ID), (LV.ro 1 (a0.Self.Costs.map iC)), (LV.ro 1 (a0.Self.Ups.map bC)), (LV.ro 6 (a0.Self.Infos.map InfoT.cells)), (LV.ro 2 (a0.States.map PortStateT.cells)), (I a0.Max), (I a0.Delay)])] (LV.bool r) := by
  unfold stp_Right at h
  refine .intro nlA (.intro TT_ok Try.func56 rfl rfl [0, 1, 2, 3, 4, 5, 6, 32, 34, 35, 36, 37, 68] rfl ?_)
  conv => whnf
  replace h := bindS h
  obtain ⟨y72, hy72, h⟩ := h
  have c73 := c_role_Roles a0.Self _ hy72
  repeat' first | with_reducible rfl | with_reducible exact True.intro | with_reducible assumption | refine parkI ?_ | (refine CallP.use c73 ?_; conv => whnf) | (refine ⟨_, _, CallP.at c73, ?_⟩; conv => whnf) | (refine ⟨_, fun _ => c73, ?_⟩; conv => whnf) | (refine W.drawn TT_ok hmix1 rfl ?_; conv => whnf) | exact clA _ | (refine And.intro ?_ ?_ <;> conv => whnf) | exact clG _ | (refine gand ?_ h; assumption) | exact clN _ | fail
  refine parkE (fun hc => ?_) (fun hc => ?_)
  · replace h := condT (by first | exact hc | simpa only [se_len, se_ch, List.length_map] using hc) h
    conv => whnf
    have e := Option.some.inj h
    subst e
    repeat' first | with_reducible rfl | with_reducible exact True.intro | with_reducible assumption | (refine W.drawn TT_ok hmix1 rfl ?_; conv => whnf) | exact clA _ | (refine And.intro ?_ ?_ <;> conv => whnf) | exact clG _ | (refine gand ?_ h; assumption) | exact clN _ | fail
  · replace h := condF (by first | exact hc | simpa only [se_len, se_ch, List.length_map] using hc) h
    conv => whnf
    repeat' first | with_reducible rfl | with_reducible exact True.intro | with_reducible assumption | refine parkI ?_ | (refine W.drawn TT_ok hmix1 rfl ?_; conv => whnf) | exact clA _ | (refine And.intro ?_ ?_ <;> conv => whnf) | exact clG _ | (refine gand ?_ h; assumption) | exact clN _ | fail
    replace h := aftS h
    obtain ⟨O8, hO8, r8⟩ := h
    refine LoopW.norm [(1, (LV.ptr 0 0 0)), (3, (LV.ro 1 (y72.1.map iC))), (34, (LV.ro 2 (a0.States.map PortStateT.cells))), (35, (I (((a0.States.map PortStateT.cells).length : Nat) : Int))), (36, (I ((0 : Nat) : Int)))] 1 [(0, (.row 85 7 [[(I a0.Self.ID), (LV.ro 1 (a0.Self.Costs.map iC)), (LV.ro 1 (a0.Self.Ups.map bC)), (LV.ro 6 (a0.Self.Infos.map InfoT.cells)), (LV.ro 2 (a0.States.map PortStateT.cells)), (I a0.Max), (I a0.Delay)]]))] ⟨rfl, rfl, rfl, rfl, rfl, trivial⟩ ⟨⟨rfl, rfl, blT⟩, trivial⟩ blT rfl ?_
    refine LoopW.forR (fun k8 s8 => [(1, (LV.ptr 0 0 0)), (3, (LV.ro 1 (y72.1.map iC))), (34, (LV.ro 2 (a0.States.map PortStateT.cells))), (35, (I (((a0.States.map PortStateT.cells).length : Nat) : Int))), (36, (I ((k8 : Nat) : Int)))]) (fun s8 => ⟨1, [(0, (.row 85 7 [[(I a0.Self.ID), (LV.ro 1 (a0.Self.Costs.map iC)), (LV.ro 1 (a0.Self.Ups.map bC)), (LV.ro 6 (a0.Self.Infos.map InfoT.cells)), (LV.ro 2 (a0.States.map PortStateT.cells)), (I a0.Max), (I a0.Delay)]]))]⟩) hO8 (fun hl8 s8 hs8 => ?_) (fun hl8 k8 x8 s8 o8 hk8 hx8 b8 K8 hret8 hbrk8 => ?_)
    · rw [hs8] at r8
      dsimp only [aftM] at r8
      have hd : decide (((a0.States.length : Nat) : Int) < (((a0.States.map PortStateT.cells).length : Nat) : Int)) = false := by rw [decide_eq_false_iff_not]; (try simp only [se_len, se_ch, List.length_map]); omega
      refine LoopW.round TT_ok [0, 1, 2, 3, 4, 5, 6, 32, 34, 35, 36, 37, 68] ?_
      conv => whnf
      repeat' first | with_reducible rfl | with_reducible exact True.intro | with_reducible assumption | refine parkI ?_ | (refine W.drawn TT_ok hmix1 rfl ?_; conv => whnf) | exact clA _ | (refine And.intro ?_ ?_ <;> conv => whnf) | exact clG _ | (refine gand ?_ h; assumption) | exact clN _ | fail
      refine parkE (fun hc => ?_) (fun hc => ?_)
      · exact (Bool.false_ne_true (hd.symm.trans hc)).elim
      · clear hd
        conv => whnf
        have e := Option.some.inj r8
        subst e
        repeat' first | with_reducible rfl | with_reducible exact True.intro | with_reducible assumption | (refine W.drawn TT_ok hmix1 rfl ?_; conv => whnf) | exact clA _ | (refine And.intro ?_ ?_ <;> conv => whnf) | exact clG _ | (refine gand ?_ h; assumption) | exact clN _ | fail
    · unfold stp_Right_b8 at b8
      have hd : decide (((k8 : Nat) : Int) < (((a0.States.map PortStateT.cells).length : Nat) : Int)) = true := by rw [decide_eq_true_eq]; (try simp only [se_len, se_ch, List.length_map] at hk8); (try simp only [se_len, se_ch, List.length_map]); omega
      refine LoopW.round TT_ok [0, 1, 2, 3, 4, 5, 6, 32, 34, 35, 36, 37, 68] ?_
      conv => whnf
      repeat' first | with_reducible rfl | with_reducible exact True.intro | with_reducible assumption | refine parkI ?_ | (refine W.drawn TT_ok hmix1 rfl ?_; conv => whnf) | exact clA _ | (refine And.intro ?_ ?_ <;> conv => whnf) | exact clG _ | (refine gand ?_ h; assumption) | exact clN _ | fail
      refine parkE (fun hc => ?_) (fun hc => ?_)
      · clear hd
        conv => whnf
        replace b8 := bindS b8
        obtain ⟨y74, hy74, b8⟩ := b8
        have c75 := c_port_Right x8 a0.Delay _ hy74
        replace b8 := bindS b8
        obtain ⟨v76, hv76, b8⟩ := b8
        have i77 := fun hg => gixF (f := iC) (gdS hg hv76)
        replace b8 := bindS b8
        obtain ⟨y78, hy78, b8⟩ := b8
        have c79 := fun (hg : (!(!y74)) = true) => c_stp_isActive v76 _ (gdS hg hy78)
        replace b8 := bindS b8
        obtain ⟨v80, hv80, b8⟩ := b8
        have i81 := fun hg => gixF (f := InfoT.cells) (gdS hg hv80)
        repeat' first | with_reducible rfl | with_reducible exact True.intro | with_reducible assumption | refine parkI ?_ | (refine ⟨_, (kixF (f := PortStateT.cells) hx8), ?_⟩; conv => whnf) | (refine ⟨_, i77, ?_⟩; conv => whnf) | (refine ⟨_, c79, ?_⟩; conv => whnf) | (refine ⟨_, i81, ?_⟩; conv => whnf) | (refine CallP.use c75 ?_; conv => whnf) | (refine ⟨_, _, CallP.at c75, ?_⟩; conv => whnf) | (refine ⟨_, fun _ => c75, ?_⟩; conv => whnf) | (refine W.drawn TT_ok hmix1 rfl ?_; conv => whnf) | exact clA _ | (refine And.intro ?_ ?_ <;> conv => whnf) | exact clG _ | (refine gand ?_ h; assumption) | exact clN _ | fail
        refine parkE (fun hc => ?_) (fun hc => ?_)
        · replace b8 := condT hc b8
          conv => whnf
          have e := Option.some.inj b8
          replace e := hret8 _ e.symm
          rw [e] at r8
          replace e := Option.some.inj r8
          subst e
          repeat' first | with_reducible rfl | with_reducible exact True.intro | with_reducible assumption | (refine W.drawn TT_ok hmix1 rfl ?_; conv => whnf) | exact clA _ | (refine And.intro ?_ ?_ <;> conv => whnf) | exact clG _ | (refine gand ?_ h; assumption) | exact clN _ | fail
        · replace b8 := condF hc b8
          conv => whnf
          repeat' first | with_reducible rfl | with_reducible exact True.intro | with_reducible assumption | refine parkI ?_ | (refine W.drawn TT_ok hmix1 rfl ?_; conv => whnf) | exact clA _ | (refine And.intro ?_ ?_ <;> conv => whnf) | exact clG _ | (refine gand ?_ h; assumption) | exact clN _ | fail
          have e := Option.some.inj b8
          refine LoopW.norm [(1, (LV.ptr 0 0 0)), (3, (LV.ro 1 (y72.1.map iC))), (34, (LV.ro 2 (a0.States.map PortStateT.cells))), (35, (I (((a0.States.map PortStateT.cells).length : Nat) : Int))), (36, (I ((k8 + 1 : Nat) : Int)))] 1 [(0, (.row 85 7 [[(I a0.Self.ID), (LV.ro 1 (a0.Self.Costs.map iC)), (LV.ro 1 (a0.Self.Ups.map bC)), (LV.ro 6 (a0.Self.Infos.map InfoT.cells)), (LV.ro 2 (a0.States.map PortStateT.cells)), (I a0.Max), (I a0.Delay)]]))] ⟨rfl, rfl, rfl, rfl, (congrArg (LV.int .i64) (w64_nat _ (by omega))), trivial⟩ ⟨⟨rfl, rfl, blT⟩, trivial⟩ blT rfl (K8 _ e.symm)
      · exact (Bool.false_ne_true (hc.symm.trans hd)).elim

def port_Tick (a0 : PortStateT) (a1 : Int) : Option (PortStateT × Int) :=
  (port_Right a0 a1).bind fun y82 =>
  (bif (!y82) then
    some ((⟨0, 0⟩ : PortStateT), 1)
  else
    (bif (decide (1 < a0.Left)) then
      some ((⟨a0.State, (IntKind.i64.wrap (a0.Left - 1))⟩ : PortStateT), 0)
    else
      (bif (decide (a0.State = 1)) then
        some ((⟨2, a1⟩ : PortStateT), 0)
      else
        (bif (decide (a0.State = 2)) then
          some ((⟨3, 0⟩ : PortStateT), 0)
        else
          some (a0, 0)))))

theorem c_port_Tick (a0 : PortStateT) (a1 : Int) (r : (PortStateT × Int)) (h : port_Tick a0 a1 = some r) : CallP Try.prog 184 [(LV.agg [(I a0.State), (I a0.Left)]), (I a1)] (LV.tup [(LV.agg [(I r.1.State), (I r.1.Left)]), (I r.2)]) := by
  unfold port_Tick at h
  refine .intro nlA (.intro TT_ok Try.func184 rfl rfl [0, 1, 2, 4, 5, 9, 11, 19, 25] rfl ?_)
  conv => whnf
  replace h := bindS h
  obtain ⟨y82, hy82, h⟩ := h
  have c83 := c_port_Right a0 a1 _ hy82
  repeat' first | with_reducible rfl | with_reducible exact True.intro | with_reducible assumption | refine parkI ?_ | (refine CallP.use c83 ?_; conv => whnf) | (refine And.intro ?_ ?_ <;> conv => whnf) | fail
  refine parkE (fun hc => ?_) (fun hc => ?_)
  · replace h := condT hc h
    conv => whnf
    have e := Option.some.inj h
    subst e
    repeat' first | with_reducible rfl | with_reducible exact True.intro | with_reducible assumption | exact clA _ | (refine And.intro ?_ ?_ <;> conv => whnf) | exact clG _ | (refine gand ?_ h; assumption) | exact clN _ | fail
  · replace h := condF hc h
    conv => whnf
    repeat' first | with_reducible rfl | with_reducible exact True.intro | with_reducible assumption | refine parkI ?_ | (refine And.intro ?_ ?_ <;> conv => whnf) | fail
    refine parkE (fun hc => ?_) (fun hc => ?_)
    · replace h := condT hc h
      conv => whnf
      have e := Option.some.inj h
      subst e
      repeat' first | with_reducible rfl | with_reducible exact True.intro | with_reducible assumption | exact clA _ | (refine And.intro ?_ ?_ <;> conv => whnf) | exact clG _ | (refine gand ?_ h; assumption) | exact clN _ | fail
    · replace h := condF hc h
      conv => whnf
      repeat' first | with_reducible rfl | with_reducible exact True.intro | with_reducible assumption | refine parkI ?_ | (refine And.intro ?_ ?_ <;> conv => whnf) | fail
      refine parkE (fun hc => ?_) (fun hc => ?_)
      · replace h := condT hc h
        conv => whnf
        have e := Option.some.inj h
        subst e
        repeat' first | with_reducible rfl | with_reducible exact True.intro | with_reducible assumption | exact clA _ | (refine And.intro ?_ ?_ <;> conv => whnf) | exact clG _ | (refine gand ?_ h; assumption) | exact clN _ | fail
      · replace h := condF hc h
        conv => whnf
        repeat' first | with_reducible rfl | with_reducible exact True.intro | with_reducible assumption | refine parkI ?_ | (refine And.intro ?_ ?_ <;> conv => whnf) | fail
        refine parkE (fun hc => ?_) (fun hc => ?_)
        · replace h := condT hc h
          conv => whnf
          have e := Option.some.inj h
          subst e
          repeat' first | with_reducible rfl | with_reducible exact True.intro | with_reducible assumption | exact clA _ | (refine And.intro ?_ ?_ <;> conv => whnf) | exact clG _ | (refine gand ?_ h; assumption) | exact clN _ | fail
        · replace h := condF hc h
          conv => whnf
          have e := Option.some.inj h
          subst e
          repeat' first | with_reducible rfl | with_reducible exact True.intro | with_reducible assumption | exact clA _ | (refine And.intro ?_ ?_ <;> conv => whnf) | exact clG _ | (refine gand ?_ h; assumption) | exact clN _ | fail

def port_May (a0 : PortStateT) : Option (Bool × Bool) :=
  some ((bif (decide (a0.State = 2)) then true else (decide (a0.State = 3))), (decide (a0.State = 3)))

theorem c_port_May (a0 : PortStateT) (r : (Bool × Bool)) (h : port_May a0 = some r) : CallP Try.prog 187 [(LV.agg [(I a0.State), (I a0.Left)])] (LV.tup [(LV.bool r.1), (LV.bool r.2)]) := by
  unfold port_May at h
  refine .intro nlA (.intro TT_ok Try.func187 rfl rfl [0, 1, 2, 3] rfl ?_)
  conv => whnf
  have e := Option.some.inj h
  subst e
  repeat' first | with_reducible rfl | with_reducible exact True.intro | with_reducible assumption | (refine W.drawn TT_ok hmix1 rfl ?_; conv => whnf) | exact clA _ | (refine And.intro ?_ ?_ <;> conv => whnf) | exact clG _ | (refine gand ?_ h; assumption) | exact clN _ | fail

def role_Tell (a0 : SelfT) (a1 : Int) (a2 : Int) : Option (ConfigT × Bool × Int) :=
  (role_Right a0).bind fun y84 =>
  (bif (!y84) then
    some ((⟨(⟨0, 0, 0, 0⟩ : VecT), 0⟩ : ConfigT), false, 1)
  else
    (role_in a1 0 (IntKind.i64.wrap (((a0.Costs.length : Nat) : Int) - 1))).bind fun y86 =>
    (bif (!y86) then
      some ((⟨(⟨0, 0, 0, 0⟩ : VecT), 0⟩ : ConfigT), false, 3)
    else
      (role_in a2 1 255).bind fun y88 =>
      (bif (!y88) then
        some ((⟨(⟨0, 0, 0, 0⟩ : VecT), 0⟩ : ConfigT), false, 1)
      else
        (role_wayOf a0).bind fun y90 =>
        (match y90 with
        | .k0 u2_ =>
          (role_portOf a0 (U_role_way.k0 (⟨⟩ : role_hereT))).bind fun y92 =>
          (gd (!(decide (a2 ≤ y92.2))) (role_role a0 (U_role_way.k0 (⟨⟩ : role_hereT)) a1)).bind fun y94 =>
          (bif (bif (decide (a2 ≤ y92.2)) then true else (!decide (y94 = 1))) then
            some ((⟨(⟨0, 0, 0, 0⟩ : VecT), 0⟩ : ConfigT), false, 0)
          else
            (role_tells a0 (U_role_way.k0 (⟨⟩ : role_hereT)) a1).bind fun y96 =>
            some ((⟨y96, y92.2⟩ : ConfigT), true, 0))
        | .k1 u2_ =>
          (role_portOf a0 (U_role_way.k1 u2_)).bind fun y92 =>
          (gd (!(decide (a2 ≤ y92.2))) (role_role a0 (U_role_way.k1 u2_) a1)).bind fun y94 =>
          (bif (bif (decide (a2 ≤ y92.2)) then true else (!decide (y94 = 1))) then
            some ((⟨(⟨0, 0, 0, 0⟩ : VecT), 0⟩ : ConfigT), false, 0)
          else
            (role_tells a0 (U_role_way.k1 u2_) a1).bind fun y96 =>
            some ((⟨y96, y92.2⟩ : ConfigT), true, 0))))))

theorem c_role_Tell (a0 : SelfT) (a1 : Int) (a2 : Int) (r : (ConfigT × Bool × Int)) (h : role_Tell a0 a1 a2 = some r) : CallP Try.prog 185 [(LV.agg [(I a0.ID), (LV.ro 1 (a0.Costs.map iC)), (LV.ro 1 (a0.Ups.map bC)), (LV.ro 6 (a0.Infos.map InfoT.cells))]), (I a1), (I a2)] (LV.tup [(LV.agg [(I r.1.Vec.Root), (I r.1.Vec.Cost), (I r.1.Vec.Bridge), (I r.1.Vec.Port), (I r.1.Age)]), (LV.bool r.2.1), (I r.2.2)]) := by
  unfold role_Tell at h
  refine .intro nlA (.intro TT_ok Try.func185 rfl rfl [0, 1, 2, 3, 6, 7, 8, 9, 11, 12, 17, 26, 48] rfl ?_)
  conv => whnf
  replace h := bindS h
  obtain ⟨y84, hy84, h⟩ := h
  have c85 := c_role_Right a0 _ hy84
  repeat' first | with_reducible rfl | with_reducible exact True.intro | with_reducible assumption | refine parkI ?_ | (refine CallP.use c85 ?_; conv => whnf) | (refine And.intro ?_ ?_ <;> conv => whnf) | fail
  refine parkE (fun hc => ?_) (fun hc => ?_)
  · replace h := condT hc h
    conv => whnf
    have e := Option.some.inj h
    subst e
    repeat' first | with_reducible rfl | with_reducible exact True.intro | with_reducible assumption | exact clA _ | (refine And.intro ?_ ?_ <;> conv => whnf) | exact clG _ | (refine gand ?_ h; assumption) | exact clN _ | fail
  · replace h := condF hc h
    conv => whnf
    replace h := bindS h
    obtain ⟨y86, hy86, h⟩ := h
    have c87 : CallP Try.prog 262 [(I a1), (I 0), (I (IntKind.i64.wrap ((((a0.Costs.map iC).length : Nat) : Int) - 1)))] (LV.bool y86) := by first | exact c_role_in a1 0 (IntKind.i64.wrap (((a0.Costs.length : Nat) : Int) - 1)) _ hy86 | (simpa only [se_map, se_byL, se_len, se_ch, List.length_map] using c_role_in a1 0 (IntKind.i64.wrap (((a0.Costs.length : Nat) : Int) - 1)) _ hy86)
    repeat' first | with_reducible rfl | with_reducible exact True.intro | with_reducible assumption | refine parkI ?_ | (refine CallP.use c87 ?_; conv => whnf) | (refine And.intro ?_ ?_ <;> conv => whnf) | fail
    refine parkE (fun hc => ?_) (fun hc => ?_)
    · replace h := condT hc h
      conv => whnf
      have e := Option.some.inj h
      subst e
      repeat' first | with_reducible rfl | with_reducible exact True.intro | with_reducible assumption | exact clA _ | (refine And.intro ?_ ?_ <;> conv => whnf) | exact clG _ | (refine gand ?_ h; assumption) | exact clN _ | fail
    · replace h := condF hc h
      conv => whnf
      replace h := bindS h
      obtain ⟨y88, hy88, h⟩ := h
      have c89 := c_role_in a2 1 255 _ hy88
      repeat' first | with_reducible rfl | with_reducible exact True.intro | with_reducible assumption | refine parkI ?_ | (refine CallP.use c89 ?_; conv => whnf) | (refine And.intro ?_ ?_ <;> conv => whnf) | fail
      refine parkE (fun hc => ?_) (fun hc => ?_)
      · replace h := condT hc h
        conv => whnf
        have e := Option.some.inj h
        subst e
        repeat' first | with_reducible rfl | with_reducible exact True.intro | with_reducible assumption | exact clA _ | (refine And.intro ?_ ?_ <;> conv => whnf) | exact clG _ | (refine gand ?_ h; assumption) | exact clN _ | fail
      · replace h := condF hc h
        conv => whnf
        replace h := bindS h
        obtain ⟨y90, hy90, h⟩ := h
        have c91 := c_role_wayOf a0 _ hy90
        repeat' first | with_reducible rfl | with_reducible exact True.intro | with_reducible assumption | refine parkI ?_ | (refine CallP.use c91 ?_; conv => whnf) | (refine And.intro ?_ ?_ <;> conv => whnf) | fail
        rcases y90 with u2_ | u2_
        · dsimp only at h
          conv => whnf
          replace h := bindS h
          obtain ⟨y92, hy92, h⟩ := h
          have c93 : CallP Try.prog 193 [(LV.agg [(I a0.ID), (LV.ro 1 (a0.Costs.map iC)), (LV.ro 1 (a0.Ups.map bC)), (LV.ro 6 (a0.Infos.map InfoT.cells))]), (LV.iface 321 (LV.agg []))] (LV.tup [(I y92.1), (I y92.2)]) := by first | exact c_role_portOf a0 (U_role_way.k0 (⟨⟩ : role_hereT)) _ hy92 | (simpa only [se_map, se_byL, se_len, se_ch, List.length_map] using c_role_portOf a0 (U_role_way.k0 (⟨⟩ : role_hereT)) _ hy92) | (simpa only [se_map, se_byL, se_len, se_ch, List.length_map, role_hereT.cells] using c_role_portOf a0 (U_role_way.k0 (⟨⟩ : role_hereT)) _ hy92)
          replace h := bindS h
          obtain ⟨y94, hy94, h⟩ := h
          have c95 : (!(decide (a2 ≤ y92.2))) = true → CallP Try.prog 257 [(LV.agg [(I a0.ID), (LV.ro 1 (a0.Costs.map iC)), (LV.ro 1 (a0.Ups.map bC)), (LV.ro 6 (a0.Infos.map InfoT.cells))]), (LV.iface 321 (LV.agg [])), (I a1)] (I y94) := by first | exact fun (hg : (!(decide (a2 ≤ y92.2))) = true) => c_role_role a0 (U_role_way.k0 (⟨⟩ : role_hereT)) a1 _ (gdS hg hy94) | (simpa only [se_map, se_byL, se_len, se_ch, List.length_map] using fun (hg : (!(decide (a2 ≤ y92.2))) = true) => c_role_role a0 (U_role_way.k0 (⟨⟩ : role_hereT)) a1 _ (gdS hg hy94))
          repeat' first | with_reducible rfl | with_reducible exact True.intro | with_reducible assumption | refine parkI ?_ | (refine ⟨_, c95, ?_⟩; conv => whnf) | (refine CallP.use c93 ?_; conv => whnf) | exact clA _ | (refine And.intro ?_ ?_ <;> conv => whnf) | exact clG _ | (refine gand ?_ h; assumption) | fail
          refine parkE (fun hc => ?_) (fun hc => ?_)
          · replace h := condT hc h
            conv => whnf
            have e := Option.some.inj h
            subst e
            repeat' first | with_reducible rfl | with_reducible exact True.intro | with_reducible assumption | exact clA _ | (refine And.intro ?_ ?_ <;> conv => whnf) | exact clG _ | (refine gand ?_ h; assumption) | exact clN _ | fail
          · replace h := condF hc h
            conv => whnf
            replace h := bindS h
            obtain ⟨y96, hy96, h⟩ := h
            have c97 : CallP Try.prog 194 [(LV.agg [(I a0.ID), (LV.ro 1 (a0.Costs.map iC)), (LV.ro 1 (a0.Ups.map bC)), (LV.ro 6 (a0.Infos.map InfoT.cells))]), (LV.iface 321 (LV.agg [])), (I a1)] (LV.agg [(I y96.Root), (I y96.Cost), (I y96.Bridge), (I y96.Port)]) := by first | exact c_role_tells a0 (U_role_way.k0 (⟨⟩ : role_hereT)) a1 _ hy96 | (simpa only [se_map, se_byL, se_len, se_ch, List.length_map] using c_role_tells a0 (U_role_way.k0 (⟨⟩ : role_hereT)) a1 _ hy96) | (simpa only [se_map, se_byL, se_len, se_ch, List.length_map, role_hereT.cells] using c_role_tells a0 (U_role_way.k0 (⟨⟩ : role_hereT)) a1 _ hy96)
            have e := Option.some.inj h
            subst e
            repeat' first | with_reducible rfl | with_reducible exact True.intro | with_reducible assumption | (refine CallP.use c97 ?_; conv => whnf) | exact clA _ | (refine And.intro ?_ ?_ <;> conv => whnf) | exact clG _ | (refine gand ?_ h; assumption) | exact clN _ | fail
        · dsimp only at h
          conv => whnf
          replace h := bindS h
          obtain ⟨y92, hy92, h⟩ := h
          have c93 : CallP Try.prog 193 [(LV.agg [(I a0.ID), (LV.ro 1 (a0.Costs.map iC)), (LV.ro 1 (a0.Ups.map bC)), (LV.ro 6 (a0.Infos.map InfoT.cells))]), (LV.iface 318 (LV.agg [(I u2_.port)]))] (LV.tup [(I y92.1), (I y92.2)]) := by first | exact c_role_portOf a0 (U_role_way.k1 u2_) _ hy92 | (simpa only [se_map, se_byL, se_len, se_ch, List.length_map] using c_role_portOf a0 (U_role_way.k1 u2_) _ hy92)
          replace h := bindS h
          obtain ⟨y94, hy94, h⟩ := h
          have c95 : (!(decide (a2 ≤ y92.2))) = true → CallP Try.prog 257 [(LV.agg [(I a0.ID), (LV.ro 1 (a0.Costs.map iC)), (LV.ro 1 (a0.Ups.map bC)), (LV.ro 6 (a0.Infos.map InfoT.cells))]), (LV.iface 318 (LV.agg [(I u2_.port)])), (I a1)] (I y94) := by first | exact fun (hg : (!(decide (a2 ≤ y92.2))) = true) => c_role_role a0 (U_role_way.k1 u2_) a1 _ (gdS hg hy94) | (simpa only [se_map, se_byL, se_len, se_ch, List.length_map] using fun (hg : (!(decide (a2 ≤ y92.2))) = true) => c_role_role a0 (U_role_way.k1 u2_) a1 _ (gdS hg hy94))
          repeat' first | with_reducible rfl | with_reducible exact True.intro | with_reducible assumption | refine parkI ?_ | (refine ⟨_, c95, ?_⟩; conv => whnf) | (refine CallP.use c93 ?_; conv => whnf) | exact clA _ | (refine And.intro ?_ ?_ <;> conv => whnf) | exact clG _ | (refine gand ?_ h; assumption) | fail
          refine parkE (fun hc => ?_) (fun hc => ?_)
          · replace h := condT hc h
            conv => whnf
            have e := Option.some.inj h
            subst e
            repeat' first | with_reducible rfl | with_reducible exact True.intro | with_reducible assumption | exact clA _ | (refine And.intro ?_ ?_ <;> conv => whnf) | exact clG _ | (refine gand ?_ h; assumption) | exact clN _ | fail
          · replace h := condF hc h
            conv => whnf
            replace h := bindS h
            obtain ⟨y96, hy96, h⟩ := h
            have c97 : CallP Try.prog 194 [(LV.agg [(I a0.ID), (LV.ro 1 (a0.Costs.map iC)), (LV.ro 1 (a0.Ups.map bC)), (LV.ro 6 (a0.Infos.map InfoT.cells))]), (LV.iface 318 (LV.agg [(I u2_.port)])), (I a1)] (LV.agg [(I y96.Root), (I y96.Cost), (I y96.Bridge), (I y96.Port)]) := by first | exact c_role_tells a0 (U_role_way.k1 u2_) a1 _ hy96 | (simpa only [se_map, se_byL, se_len, se_ch, List.length_map] using c_role_tells a0 (U_role_way.k1 u2_) a1 _ hy96)
            have e := Option.some.inj h
            subst e
            repeat' first | with_reducible rfl | with_reducible exact True.intro | with_reducible assumption | (refine CallP.use c97 ?_; conv => whnf) | exact clA _ | (refine And.intro ?_ ?_ <;> conv => whnf) | exact clG _ | (refine gand ?_ h; assumption) | exact clN _ | fail

def role_Root (a0 : SelfT) : Option (VecT × Int × Int) :=
  (role_Right a0).bind fun y98 =>
  (bif (!y98) then
    some ((⟨0, 0, 0, 0⟩ : VecT), 0, 1)
  else
    (role_wayOf a0).bind fun y100 =>
    (match y100 with
    | .k0 u3_ =>
      (role_portOf a0 (U_role_way.k0 (⟨⟩ : role_hereT))).bind fun y102 =>
      (role_tells a0 (U_role_way.k0 (⟨⟩ : role_hereT)) 0).bind fun y104 =>
      some (y104, y102.1, 0)
    | .k1 u3_ =>
      (role_portOf a0 (U_role_way.k1 u3_)).bind fun y102 =>
      (role_tells a0 (U_role_way.k1 u3_) 0).bind fun y104 =>
      some (y104, y102.1, 0)))

theorem c_role_Root (a0 : SelfT) (r : (VecT × Int × Int)) (h : role_Root a0 = some r) : CallP Try.prog 71 [(LV.agg [(I a0.ID), (LV.ro 1 (a0.Costs.map iC)), (LV.ro 1 (a0.Ups.map bC)), (LV.ro 6 (a0.Infos.map InfoT.cells))])] (LV.tup [(LV.agg [(I r.1.Root), (I r.1.Cost), (I r.1.Bridge), (I r.1.Port)]), (I r.2.1), (I r.2.2)]) := by
  unfold role_Root at h
  refine .intro nlA (.intro TT_ok Try.func71 rfl rfl [0, 1, 2, 3, 4, 5, 6, 10] rfl ?_)
  conv => whnf
  replace h := bindS h
  obtain ⟨y98, hy98, h⟩ := h
  have c99 := c_role_Right a0 _ hy98
  repeat' first | with_reducible rfl | with_reducible exact True.intro | with_reducible assumption | refine parkI ?_ | (refine CallP.use c99 ?_; conv => whnf) | (refine And.intro ?_ ?_ <;> conv => whnf) | fail
  refine parkE (fun hc => ?_) (fun hc => ?_)
  · replace h := condT hc h
    conv => whnf
    have e := Option.some.inj h
    subst e
    repeat' first | with_reducible rfl | with_reducible exact True.intro | with_reducible assumption | exact clA _ | (refine And.intro ?_ ?_ <;> conv => whnf) | exact clG _ | (refine gand ?_ h; assumption) | exact clN _ | fail
  · replace h := condF hc h
    conv => whnf
    replace h := bindS h
    obtain ⟨y100, hy100, h⟩ := h
    have c101 := c_role_wayOf a0 _ hy100
    repeat' first | with_reducible rfl | with_reducible exact True.intro | with_reducible assumption | refine parkI ?_ | (refine CallP.use c101 ?_; conv => whnf) | (refine And.intro ?_ ?_ <;> conv => whnf) | fail
    rcases y100 with u3_ | u3_
    · dsimp only at h
      conv => whnf
      replace h := bindS h
      obtain ⟨y102, hy102, h⟩ := h
      have c103 : CallP Try.prog 193 [(LV.agg [(I a0.ID), (LV.ro 1 (a0.Costs.map iC)), (LV.ro 1 (a0.Ups.map bC)), (LV.ro 6 (a0.Infos.map InfoT.cells))]), (LV.iface 321 (LV.agg []))] (LV.tup [(I y102.1), (I y102.2)]) := by first | exact c_role_portOf a0 (U_role_way.k0 (⟨⟩ : role_hereT)) _ hy102 | (simpa only [se_map, se_byL, se_len, se_ch, List.length_map] using c_role_portOf a0 (U_role_way.k0 (⟨⟩ : role_hereT)) _ hy102) | (simpa only [se_map, se_byL, se_len, se_ch, List.length_map, role_hereT.cells] using c_role_portOf a0 (U_role_way.k0 (⟨⟩ : role_hereT)) _ hy102)
      replace h := bindS h
      obtain ⟨y104, hy104, h⟩ := h
      have c105 : CallP Try.prog 194 [(LV.agg [(I a0.ID), (LV.ro 1 (a0.Costs.map iC)), (LV.ro 1 (a0.Ups.map bC)), (LV.ro 6 (a0.Infos.map InfoT.cells))]), (LV.iface 321 (LV.agg [])), (I 0)] (LV.agg [(I y104.Root), (I y104.Cost), (I y104.Bridge), (I y104.Port)]) := by first | exact c_role_tells a0 (U_role_way.k0 (⟨⟩ : role_hereT)) 0 _ hy104 | (simpa only [se_map, se_byL, se_len, se_ch, List.length_map] using c_role_tells a0 (U_role_way.k0 (⟨⟩ : role_hereT)) 0 _ hy104) | (simpa only [se_map, se_byL, se_len, se_ch, List.length_map, role_hereT.cells] using c_role_tells a0 (U_role_way.k0 (⟨⟩ : role_hereT)) 0 _ hy104)
      have e := Option.some.inj h
      subst e
      repeat' first | with_reducible rfl | with_reducible exact True.intro | with_reducible assumption | (refine CallP.use c103 ?_; conv => whnf) | (refine CallP.use c105 ?_; conv => whnf) | exact clA _ | (refine And.intro ?_ ?_ <;> conv => whnf) | exact clG _ | (refine gand ?_ h; assumption) | exact clN _ | fail
    · dsimp only at h
      conv => whnf
      replace h := bindS h
      obtain ⟨y102, hy102, h⟩ := h
      have c103 : CallP Try.prog 193 [(LV.agg [(I a0.ID), (LV.ro 1 (a0.Costs.map iC)), (LV.ro 1 (a0.Ups.map bC)), (LV.ro 6 (a0.Infos.map InfoT.cells))]), (LV.iface 318 (LV.agg [(I u3_.port)]))] (LV.tup [(I y102.1), (I y102.2)]) := by first | exact c_role_portOf a0 (U_role_way.k1 u3_) _ hy102 | (simpa only [se_map, se_byL, se_len, se_ch, List.length_map] using c_role_portOf a0 (U_role_way.k1 u3_) _ hy102)
      replace h := bindS h
      obtain ⟨y104, hy104, h⟩ := h
      have c105 : CallP Try.prog 194 [(LV.agg [(I a0.ID), (LV.ro 1 (a0.Costs.map iC)), (LV.ro 1 (a0.Ups.map bC)), (LV.ro 6 (a0.Infos.map InfoT.cells))]), (LV.iface 318 (LV.agg [(I u3_.port)])), (I 0)] (LV.agg [(I y104.Root), (I y104.Cost), (I y104.Bridge), (I y104.Port)]) := by first | exact c_role_tells a0 (U_role_way.k1 u3_) 0 _ hy104 | (simpa only [se_map, se_byL, se_len, se_ch, List.length_map] using c_role_tells a0 (U_role_way.k1 u3_) 0 _ hy104)
      have e := Option.some.inj h
      subst e
      repeat' first | with_reducible rfl | with_reducible exact True.intro | with_reducible assumption | (refine CallP.use c103 ?_; conv => whnf) | (refine CallP.use c105 ?_; conv => whnf) | exact clA _ | (refine And.intro ?_ ?_ <;> conv => whnf) | exact clG _ | (refine gand ?_ h; assumption) | exact clN _ | fail

end Go.RX
