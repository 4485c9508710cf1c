/- Plain functions, and what says that the program's functions compute them. -/
import Derived.Test.YtoahcombdhgmhaaFe
import Derived.Test.YtoahcombdhgmhaaRXB
set_option linter.unusedVariables false
set_option linter.unusedSimpArgs false
open Go Go.RX Go.Proofs
namespace Go.RX
set_option maxRecDepth 10000
set_option maxHeartbeats 4000000
attribute [local irreducible] CallW CallP LoopW W IntKind.wrap bitI
def ref17_May_b27 (a1 : (List (List Bool))) (k27 : Nat) (x27 : PlanT) (s27 : Unit) : Option (Step Bool Unit) :=
  (gix a1 ((k27 : Nat) : Int)).bind fun v3 =>
  (bif (!decide (((v3.length : Nat) : Int) = ((x27.Ports.length : Nat) : Int))) then
    some (.ret false)
  else
    some (.nxt ()))

def ref17_May (a0 : LanT) (a1 : (List (List Bool))) : Option Bool :=
  (ref15_Right a0).bind fun y1 =>
  (bif (bif (!y1) then true else (!decide (((a1.length : Nat) : Int) = ((a0.Plans.length : Nat) : Int)))) then
    some false
  else
    aft (rangeL (ref17_May_b27 a1) a0.Plans ()) fun s27 =>
    some true)

theorem c_ref17_May (a0 : LanT) (a1 : (List (List Bool))) (r : Bool) (h : ref17_May a0 a1 = some r) : CallP Try.prog 109 [(LV.agg [(I a0.Segs), (LV.ro 2 (a0.Plans.map PlanT.cells)), (LV.ro 2 (a0.Hosts.map HostT.cells))]), (LV.ro 1 (a1.map (roC 1 bC)))] (LV.bool r) := by
  unfold ref17_May at h
  refine .intro (by repeat' first | exact True.intro | assumption | refine ⟨?_, ?_⟩) (.intro TT_ok Try.func109 rfl rfl [0, 1, 2, 4, 5, 6, 17, 19, 20, 21, 22, 34] rfl ?_)
  conv => whnf
  replace h := bindS h
  obtain ⟨y1, hy1, h⟩ := h
  have c2 := c_ref15_Right a0 _ hy1
  repeat' first | with_reducible rfl | with_reducible exact True.intro | with_reducible assumption | refine parkI ?_ | (refine CallP.use c2 ?_; conv => whnf) | (refine ⟨_, _, CallP.at c2, ?_⟩; conv => whnf) | (refine ⟨_, fun _ => c2, ?_⟩; conv => whnf) | (refine W.drawn TT_ok hmix1 rfl ?_; conv => whnf) | exact (congrArg Bool.not h) | exact fun _ => True.intro | exact (rfl : (_ : Nat) = _) | exact (rfl : (_ : LV) = _) | exact NLss_map' _ | refine NLss_app ?_ ?_ | refine NLss_set ?_ ?_ | (refine And.intro ?_ ?_ <;> conv => whnf) | (intro h; (conv => whnf) <;> first | with_reducible rfl | assumption | exact h | exact (congrArg Bool.not h) | (refine ⟨h, True.intro⟩) | (refine ⟨congrArg Bool.not h, True.intro⟩) | (refine ⟨by assumption, True.intro⟩)) | (intro h; exact (Bool.false_ne_true (h.symm.trans (by assumption))).elim) | (intros; simp_all; done) | (refine gand ?_ h; assumption) | (simp only [se_map, se_byL]; exact rfl) | (simp only [se_map, se_byL, se_len, se_ch, List.length_map]; done) | fail
  refine parkE (fun hc => ?_) (fun hc => ?_)
  · replace h := condT (by first | exact hc | simpa only [se_len, se_ch, List.length_map] using hc) h
    conv => whnf
    have e := Option.some.inj h
    subst e
    repeat' first | with_reducible rfl | with_reducible exact True.intro | with_reducible assumption | (refine W.drawn TT_ok hmix1 rfl ?_; conv => whnf) | exact (congrArg Bool.not h) | exact fun _ => True.intro | exact (rfl : (_ : Nat) = _) | exact (rfl : (_ : LV) = _) | exact NLss_map' _ | refine NLss_app ?_ ?_ | refine NLss_set ?_ ?_ | (refine And.intro ?_ ?_ <;> conv => whnf) | (intro h; (conv => whnf) <;> first | with_reducible rfl | assumption | exact h | exact (congrArg Bool.not h) | (refine ⟨h, True.intro⟩) | (refine ⟨congrArg Bool.not h, True.intro⟩) | (refine ⟨by assumption, True.intro⟩)) | (intro h; exact (Bool.false_ne_true (h.symm.trans (by assumption))).elim) | (intros; simp_all; done) | (refine gand ?_ h; assumption) | (simp only [se_map, se_byL]; exact rfl) | (simp only [se_map, se_byL, se_len, se_ch, List.length_map]; done) | fail
  · replace h := condF (by first | exact hc | simpa only [se_len, se_ch, List.length_map] using hc) h
    conv => whnf
    repeat' first | with_reducible rfl | with_reducible exact True.intro | with_reducible assumption | refine parkI ?_ | (refine W.drawn TT_ok hmix1 rfl ?_; conv => whnf) | exact (congrArg Bool.not h) | exact fun _ => True.intro | exact (rfl : (_ : Nat) = _) | exact (rfl : (_ : LV) = _) | exact NLss_map' _ | refine NLss_app ?_ ?_ | refine NLss_set ?_ ?_ | (refine And.intro ?_ ?_ <;> conv => whnf) | (intro h; (conv => whnf) <;> first | with_reducible rfl | assumption | exact h | exact (congrArg Bool.not h) | (refine ⟨h, True.intro⟩) | (refine ⟨congrArg Bool.not h, True.intro⟩) | (refine ⟨by assumption, True.intro⟩)) | (intro h; exact (Bool.false_ne_true (h.symm.trans (by assumption))).elim) | (intros; simp_all; done) | (refine gand ?_ h; assumption) | (simp only [se_map, se_byL]; exact rfl) | (simp only [se_map, se_byL, se_len, se_ch, List.length_map]; done) | fail
    replace h := aftS h
    obtain ⟨O27, hO27, r27⟩ := h
    refine LoopW.norm [(1, (LV.ro 1 (a1.map (roC 1 bC)))), (19, (LV.ro 2 (a0.Plans.map PlanT.cells))), (20, (I (((a0.Plans.map PlanT.cells).length : Nat) : Int))), (21, (I ((0 : Nat) : Int)))] 0 [] ⟨rfl, rfl, rfl, rfl, trivial⟩ trivial (by repeat' first | exact True.intro | exact rfl | exact NLs_bels (by assumption) | refine ⟨?_, ?_⟩) rfl ?_
    refine LoopW.forR (fun k27 s27 => [(1, (LV.ro 1 (a1.map (roC 1 bC)))), (19, (LV.ro 2 (a0.Plans.map PlanT.cells))), (20, (I (((a0.Plans.map PlanT.cells).length : Nat) : Int))), (21, (I ((k27 : Nat) : Int)))]) (fun s27 => ⟨0, []⟩) hO27 (fun hl27 s27 hs27 => ?_) (fun hl27 k27 x27 s27 o27 hk27 hx27 b27 K27 hret27 hbrk27 => ?_)
    · rw [hs27] at r27
      dsimp only [aftM] at r27
      have hd : decide (((a0.Plans.length : Nat) : Int) < (((a0.Plans.map PlanT.cells).length : Nat) : Int)) = false := by rw [decide_eq_false_iff_not]; (try simp only [se_len, se_ch, List.length_map]); omega
      refine LoopW.round TT_ok [0, 1, 2, 4, 5, 6, 17, 19, 20, 21, 22, 34] ?_
      conv => whnf
      repeat' first | with_reducible rfl | with_reducible exact True.intro | with_reducible assumption | refine parkI ?_ | (refine W.drawn TT_ok hmix1 rfl ?_; conv => whnf) | exact (congrArg Bool.not h) | exact fun _ => True.intro | exact (rfl : (_ : Nat) = _) | exact (rfl : (_ : LV) = _) | exact NLss_map' _ | refine NLss_app ?_ ?_ | refine NLss_set ?_ ?_ | (refine And.intro ?_ ?_ <;> conv => whnf) | (intro h; (conv => whnf) <;> first | with_reducible rfl | assumption | exact h | exact (congrArg Bool.not h) | (refine ⟨h, True.intro⟩) | (refine ⟨congrArg Bool.not h, True.intro⟩) | (refine ⟨by assumption, True.intro⟩)) | (intro h; exact (Bool.false_ne_true (h.symm.trans (by assumption))).elim) | (intros; simp_all; done) | (refine gand ?_ h; assumption) | (simp only [se_map, se_byL]; exact rfl) | (simp only [se_map, se_byL, se_len, se_ch, List.length_map]; done) | fail
      refine parkE (fun hc => ?_) (fun hc => ?_)
      · exact (Bool.false_ne_true (hd.symm.trans hc)).elim
      · clear hd
        conv => whnf
        have e := Option.some.inj r27
        subst e
        repeat' first | with_reducible rfl | with_reducible exact True.intro | with_reducible assumption | (refine W.drawn TT_ok hmix1 rfl ?_; conv => whnf) | exact (congrArg Bool.not h) | exact fun _ => True.intro | exact (rfl : (_ : Nat) = _) | exact (rfl : (_ : LV) = _) | exact NLss_map' _ | refine NLss_app ?_ ?_ | refine NLss_set ?_ ?_ | (refine And.intro ?_ ?_ <;> conv => whnf) | (intro h; (conv => whnf) <;> first | with_reducible rfl | assumption | exact h | exact (congrArg Bool.not h) | (refine ⟨h, True.intro⟩) | (refine ⟨congrArg Bool.not h, True.intro⟩) | (refine ⟨by assumption, True.intro⟩)) | (intro h; exact (Bool.false_ne_true (h.symm.trans (by assumption))).elim) | (intros; simp_all; done) | (refine gand ?_ h; assumption) | (simp only [se_map, se_byL]; exact rfl) | (simp only [se_map, se_byL, se_len, se_ch, List.length_map]; done) | fail
    · unfold ref17_May_b27 at b27
      have hd : decide (((k27 : Nat) : Int) < (((a0.Plans.map PlanT.cells).length : Nat) : Int)) = true := by rw [decide_eq_true_eq]; (try simp only [se_len, se_ch, List.length_map] at hk27); (try simp only [se_len, se_ch, List.length_map]); omega
      refine LoopW.round TT_ok [0, 1, 2, 4, 5, 6, 17, 19, 20, 21, 22, 34] ?_
      conv => whnf
      repeat' first | with_reducible rfl | with_reducible exact True.intro | with_reducible assumption | refine parkI ?_ | (refine W.drawn TT_ok hmix1 rfl ?_; conv => whnf) | exact (congrArg Bool.not h) | exact fun _ => True.intro | exact (rfl : (_ : Nat) = _) | exact (rfl : (_ : LV) = _) | exact NLss_map' _ | refine NLss_app ?_ ?_ | refine NLss_set ?_ ?_ | (refine And.intro ?_ ?_ <;> conv => whnf) | (intro h; (conv => whnf) <;> first | with_reducible rfl | assumption | exact h | exact (congrArg Bool.not h) | (refine ⟨h, True.intro⟩) | (refine ⟨congrArg Bool.not h, True.intro⟩) | (refine ⟨by assumption, True.intro⟩)) | (intro h; exact (Bool.false_ne_true (h.symm.trans (by assumption))).elim) | (intros; simp_all; done) | (refine gand ?_ h; assumption) | (simp only [se_map, se_byL]; exact rfl) | (simp only [se_map, se_byL, se_len, se_ch, List.length_map]; done) | fail
      refine parkE (fun hc => ?_) (fun hc => ?_)
      · clear hd
        conv => whnf
        replace b27 := bindS b27
        obtain ⟨v3, hv3, b27⟩ := b27
        have i4 := gixF (f := (roC 1 bC)) hv3
        repeat' first | with_reducible rfl | with_reducible exact True.intro | with_reducible assumption | refine parkI ?_ | (refine ⟨_, (kixF (f := PlanT.cells) hx27), ?_⟩; conv => whnf) | (refine ⟨_, i4, ?_⟩; conv => whnf) | (refine W.drawn TT_ok hmix1 rfl ?_; conv => whnf) | exact (congrArg Bool.not h) | exact fun _ => True.intro | exact (rfl : (_ : Nat) = _) | exact (rfl : (_ : LV) = _) | exact NLss_map' _ | refine NLss_app ?_ ?_ | refine NLss_set ?_ ?_ | (refine And.intro ?_ ?_ <;> conv => whnf) | (intro h; (conv => whnf) <;> first | with_reducible rfl | assumption | exact h | exact (congrArg Bool.not h) | (refine ⟨h, True.intro⟩) | (refine ⟨congrArg Bool.not h, True.intro⟩) | (refine ⟨by assumption, True.intro⟩)) | (intro h; exact (Bool.false_ne_true (h.symm.trans (by assumption))).elim) | (intros; simp_all; done) | (refine gand ?_ h; assumption) | (simp only [se_map, se_byL]; exact rfl) | (simp only [se_map, se_byL, se_len, se_ch, List.length_map]; done) | fail
        refine parkE (fun hc => ?_) (fun hc => ?_)
        · replace b27 := condT (by first | exact hc | simpa only [se_len, se_ch, List.length_map] using hc) b27
          conv => whnf
          have e := Option.some.inj b27
          replace e := hret27 _ e.symm
          rw [e] at r27
          replace e := Option.some.inj r27
          subst e
          repeat' first | with_reducible rfl | with_reducible exact True.intro | with_reducible assumption | (refine W.drawn TT_ok hmix1 rfl ?_; conv => whnf) | exact (congrArg Bool.not h) | exact fun _ => True.intro | exact (rfl : (_ : Nat) = _) | exact (rfl : (_ : LV) = _) | exact NLss_map' _ | refine NLss_app ?_ ?_ | refine NLss_set ?_ ?_ | (refine And.intro ?_ ?_ <;> conv => whnf) | (intro h; (conv => whnf) <;> first | with_reducible rfl | assumption | exact h | exact (congrArg Bool.not h) | (refine ⟨h, True.intro⟩) | (refine ⟨congrArg Bool.not h, True.intro⟩) | (refine ⟨by assumption, True.intro⟩)) | (intro h; exact (Bool.false_ne_true (h.symm.trans (by assumption))).elim) | (intros; simp_all; done) | (refine gand ?_ h; assumption) | (simp only [se_map, se_byL]; exact rfl) | (simp only [se_map, se_byL, se_len, se_ch, List.length_map]; done) | fail
        · replace b27 := condF (by first | exact hc | simpa only [se_len, se_ch, List.length_map] using hc) b27
          conv => whnf
          repeat' first | with_reducible rfl | with_reducible exact True.intro | with_reducible assumption | refine parkI ?_ | (refine W.drawn TT_ok hmix1 rfl ?_; conv => whnf) | exact (congrArg Bool.not h) | exact fun _ => True.intro | exact (rfl : (_ : Nat) = _) | exact (rfl : (_ : LV) = _) | exact NLss_map' _ | refine NLss_app ?_ ?_ | refine NLss_set ?_ ?_ | (refine And.intro ?_ ?_ <;> conv => whnf) | (intro h; (conv => whnf) <;> first | with_reducible rfl | assumption | exact h | exact (congrArg Bool.not h) | (refine ⟨h, True.intro⟩) | (refine ⟨congrArg Bool.not h, True.intro⟩) | (refine ⟨by assumption, True.intro⟩)) | (intro h; exact (Bool.false_ne_true (h.symm.trans (by assumption))).elim) | (intros; simp_all; done) | (refine gand ?_ h; assumption) | (simp only [se_map, se_byL]; exact rfl) | (simp only [se_map, se_byL, se_len, se_ch, List.length_map]; done) | fail
          have e := Option.some.inj b27
          refine LoopW.norm [(1, (LV.ro 1 (a1.map (roC 1 bC)))), (19, (LV.ro 2 (a0.Plans.map PlanT.cells))), (20, (I (((a0.Plans.map PlanT.cells).length : Nat) : Int))), (21, (I ((k27 + 1 : Nat) : Int)))] 0 [] ⟨rfl, rfl, rfl, (congrArg (LV.int .i64) (w64_nat _ (by omega))), trivial⟩ trivial (by repeat' first | exact True.intro | exact rfl | exact NLs_bels (by assumption) | refine ⟨?_, ?_⟩) rfl (K27 _ e.symm)
      · exact (Bool.false_ne_true (hc.symm.trans hd)).elim

def ref17_leads_b34 (a1 : (List (List Bool))) (a2 : Int) (a3 : Int) (a4 : Int) (k33 : Nat) (x33 : LinkT) (k34 : Nat) (x34 : LinkT) (s34 : Unit) : Option (Step (Step Bool Unit) Unit) :=
  (gd (bif (bif (!decide (((k33 : Nat) : Int) = ((k34 : Nat) : Int))) then x33.Up else false) then x34.Up else false) (gix a1 a2)).bind fun v19 =>
  (gd (bif (bif (!decide (((k33 : Nat) : Int) = ((k34 : Nat) : Int))) then x33.Up else false) then x34.Up else false) (gix v19 ((k33 : Nat) : Int))).bind fun v21 =>
  (gd (bif (bif (bif (!decide (((k33 : Nat) : Int) = ((k34 : Nat) : Int))) then x33.Up else false) then x34.Up else false) then v21 else false) (gix a1 a2)).bind fun v23 =>
  (gd (bif (bif (bif (!decide (((k33 : Nat) : Int) = ((k34 : Nat) : Int))) then x33.Up else false) then x34.Up else false) then v21 else false) (gix v23 ((k34 : Nat) : Int))).bind fun v25 =>
  (bif (bif (bif (bif (bif (bif (bif (!decide (((k33 : Nat) : Int) = ((k34 : Nat) : Int))) then x33.Up else false) then x34.Up else false) then v21 else false) then v25 else false) then (decide (x33.Seg = a3)) else false) then (decide (x34.Seg = a4)) else false) then
    some (.ret (.ret true))
  else
    some (.nxt ()))

def ref17_leads_b33 (a0 : LanT) (a1 : (List (List Bool))) (a2 : Int) (a3 : Int) (a4 : Int) (k33 : Nat) (x33 : LinkT) (s33 : Unit) : Option (Step Bool Unit) :=
  (gix a0.Plans a2).bind fun v17 =>
  aft (rangeL (ref17_leads_b34 a1 a2 a3 a4 k33 x33) v17.Ports ()) fun s34 =>
  some (.nxt ())

def ref17_leads (a0 : LanT) (a1 : (List (List Bool))) (a2 : Int) (a3 : Int) (a4 : Int) : Option Bool :=
  (gix a0.Plans a2).bind fun v15 =>
  aft (rangeL (ref17_leads_b33 a0 a1 a2 a3 a4) v15.Ports ()) fun s33 =>
  some false

theorem c_ref17_leads (a0 : LanT) (a1 : (List (List Bool))) (a2 : Int) (a3 : Int) (a4 : Int) (r : Bool) (h : ref17_leads a0 a1 a2 a3 a4 = some r) : CallP Try.prog 283 [(LV.agg [(I a0.Segs), (LV.ro 2 (a0.Plans.map PlanT.cells)), (LV.ro 2 (a0.Hosts.map HostT.cells))]), (LV.ro 1 (a1.map (roC 1 bC))), (I a2), (I a3), (I a4)] (LV.bool r) := by
  unfold ref17_leads at h
  refine .intro (by repeat' first | exact True.intro | assumption | refine ⟨?_, ?_⟩) (.intro TT_ok Try.func283 rfl rfl [0, 1, 2, 3, 4, 5, 10, 11, 12, 13, 14, 20, 21, 22, 23, 32, 33, 34, 35, 79] rfl ?_)
  conv => whnf
  replace h := bindS h
  obtain ⟨v15, hv15, h⟩ := h
  have i16 := gixF (f := PlanT.cells) hv15
  repeat' first | with_reducible rfl | with_reducible exact True.intro | with_reducible assumption | refine parkI ?_ | (refine ⟨_, i16, ?_⟩; conv => whnf) | (refine And.intro ?_ ?_ <;> conv => whnf) | fail
  replace h := aftS h
  obtain ⟨O33, hO33, r33⟩ := h
  refine LoopW.norm [(1, (LV.ro 1 (a1.map (roC 1 bC)))), (2, (I a2)), (3, (I a3)), (4, (I a4)), (5, (LV.ptr 0 0 0)), (20, (LV.ro 3 (v15.Ports.map LinkT.cells))), (21, (I (((v15.Ports.map LinkT.cells).length : Nat) : Int))), (22, (I ((0 : Nat) : Int)))] 1 [(0, (.row 47 3 [[(I a0.Segs), (LV.ro 2 (a0.Plans.map PlanT.cells)), (LV.ro 2 (a0.Hosts.map HostT.cells))]]))] ⟨rfl, rfl, rfl, rfl, rfl, rfl, rfl, rfl, trivial⟩ ⟨⟨rfl, rfl, (by repeat' first | exact True.intro | exact rfl | exact NLs_bels (by assumption) | refine ⟨?_, ?_⟩)⟩, trivial⟩ (by repeat' first | exact True.intro | exact rfl | exact NLs_bels (by assumption) | refine ⟨?_, ?_⟩) rfl ?_
  refine LoopW.forR (fun k33 s33 => [(1, (LV.ro 1 (a1.map (roC 1 bC)))), (2, (I a2)), (3, (I a3)), (4, (I a4)), (5, (LV.ptr 0 0 0)), (20, (LV.ro 3 (v15.Ports.map LinkT.cells))), (21, (I (((v15.Ports.map LinkT.cells).length : Nat) : Int))), (22, (I ((k33 : Nat) : Int)))]) (fun s33 => ⟨1, [(0, (.row 47 3 [[(I a0.Segs), (LV.ro 2 (a0.Plans.map PlanT.cells)), (LV.ro 2 (a0.Hosts.map HostT.cells))]]))]⟩) hO33 (fun hl33 s33 hs33 => ?_) (fun hl33 k33 x33 s33 o33 hk33 hx33 b33 K33 hret33 hbrk33 => ?_)
  · rw [hs33] at r33
    dsimp only [aftM] at r33
    have hd : decide (((v15.Ports.length : Nat) : Int) < (((v15.Ports.map LinkT.cells).length : Nat) : Int)) = false := by rw [decide_eq_false_iff_not]; (try simp only [se_len, se_ch, List.length_map]); omega
    refine LoopW.round TT_ok [0, 1, 2, 3, 4, 5, 10, 11, 12, 13, 14, 20, 21, 22, 23, 32, 33, 34, 35, 79] ?_
    conv => whnf
    repeat' first | with_reducible rfl | with_reducible exact True.intro | with_reducible assumption | refine parkI ?_ | (refine And.intro ?_ ?_ <;> conv => whnf) | fail
    refine parkE (fun hc => ?_) (fun hc => ?_)
    · exact (Bool.false_ne_true (hd.symm.trans hc)).elim
    · clear hd
      conv => whnf
      have e := Option.some.inj r33
      subst e
      repeat' first | with_reducible rfl | with_reducible exact True.intro | with_reducible assumption | exact (congrArg Bool.not h) | exact fun _ => True.intro | exact (rfl : (_ : Nat) = _) | exact (rfl : (_ : LV) = _) | exact NLss_map' _ | refine NLss_app ?_ ?_ | refine NLss_set ?_ ?_ | (refine And.intro ?_ ?_ <;> conv => whnf) | (intro h; (conv => whnf) <;> first | with_reducible rfl | assumption | exact h | exact (congrArg Bool.not h) | (refine ⟨h, True.intro⟩) | (refine ⟨congrArg Bool.not h, True.intro⟩) | (refine ⟨by assumption, True.intro⟩)) | (intro h; exact (Bool.false_ne_true (h.symm.trans (by assumption))).elim) | (intros; simp_all; done) | (refine gand ?_ h; assumption) | (simp only [se_map, se_byL]; exact rfl) | (simp only [se_map, se_byL, se_len, se_ch, List.length_map]; done) | fail
  · unfold ref17_leads_b33 at b33
    have hd : decide (((k33 : Nat) : Int) < (((v15.Ports.map LinkT.cells).length : Nat) : Int)) = true := by rw [decide_eq_true_eq]; (try simp only [se_len, se_ch, List.length_map] at hk33); (try simp only [se_len, se_ch, List.length_map]); omega
    refine LoopW.round TT_ok [0, 1, 2, 3, 4, 5, 10, 11, 12, 13, 14, 20, 21, 22, 23, 32, 33, 34, 35, 79] ?_
    conv => whnf
    repeat' first | with_reducible rfl | with_reducible exact True.intro | with_reducible assumption | refine parkI ?_ | (refine And.intro ?_ ?_ <;> conv => whnf) | fail
    refine parkE (fun hc => ?_) (fun hc => ?_)
    · clear hd
      conv => whnf
      replace b33 := bindS b33
      obtain ⟨v17, hv17, b33⟩ := b33
      have i18 := gixF (f := PlanT.cells) hv17
      repeat' first | with_reducible rfl | with_reducible exact True.intro | with_reducible assumption | refine parkI ?_ | (refine ⟨_, (kixF (f := LinkT.cells) hx33), ?_⟩; conv => whnf) | (refine ⟨_, i18, ?_⟩; conv => whnf) | (refine And.intro ?_ ?_ <;> conv => whnf) | fail
      replace b33 := aftS b33
      obtain ⟨O34, hO34, r34⟩ := b33
      refine LoopW.norm [(1, (LV.ro 1 (a1.map (roC 1 bC)))), (2, (I a2)), (3, (I a3)), (4, (I a4)), (5, (LV.ptr 0 0 0)), (11, (I ((k33 : Nat) : Int))), (12, (LV.ptr 1 0 0)), (20, (LV.ro 3 (v15.Ports.map LinkT.cells))), (21, (I (((v15.Ports.map LinkT.cells).length : Nat) : Int))), (22, (I ((k33 : Nat) : Int))), (32, (LV.ro 3 (v17.Ports.map LinkT.cells))), (33, (I (((v17.Ports.map LinkT.cells).length : Nat) : Int))), (34, (I ((0 : Nat) : Int)))] 2 [(0, (.row 47 3 [[(I a0.Segs), (LV.ro 2 (a0.Plans.map PlanT.cells)), (LV.ro 2 (a0.Hosts.map HostT.cells))]])), (1, (.row 55 3 [[(I x33.Seg), (I x33.Cost), (LV.bool x33.Up)]]))] ⟨rfl, rfl, rfl, rfl, rfl, rfl, rfl, rfl, rfl, rfl, rfl, rfl, rfl, trivial⟩ ⟨⟨rfl, rfl, (by repeat' first | exact True.intro | exact rfl | exact NLs_bels (by assumption) | refine ⟨?_, ?_⟩)⟩, ⟨⟨rfl, rfl, (by repeat' first | exact True.intro | exact rfl | exact NLs_bels (by assumption) | refine ⟨?_, ?_⟩)⟩, trivial⟩⟩ (by repeat' first | exact True.intro | exact rfl | exact NLs_bels (by assumption) | refine ⟨?_, ?_⟩) rfl ?_
      refine LoopW.forR (fun k34 s34 => [(1, (LV.ro 1 (a1.map (roC 1 bC)))), (2, (I a2)), (3, (I a3)), (4, (I a4)), (5, (LV.ptr 0 0 0)), (11, (I ((k33 : Nat) : Int))), (12, (LV.ptr 1 0 0)), (20, (LV.ro 3 (v15.Ports.map LinkT.cells))), (21, (I (((v15.Ports.map LinkT.cells).length : Nat) : Int))), (22, (I ((k33 : Nat) : Int))), (32, (LV.ro 3 (v17.Ports.map LinkT.cells))), (33, (I (((v17.Ports.map LinkT.cells).length : Nat) : Int))), (34, (I ((k34 : Nat) : Int)))]) (fun s34 => ⟨2, [(0, (.row 47 3 [[(I a0.Segs), (LV.ro 2 (a0.Plans.map PlanT.cells)), (LV.ro 2 (a0.Hosts.map HostT.cells))]])), (1, (.row 55 3 [[(I x33.Seg), (I x33.Cost), (LV.bool x33.Up)]]))]⟩) hO34 (fun hl34 s34 hs34 => ?_) (fun hl34 k34 x34 s34 o34 hk34 hx34 b34 K34 hret34 hbrk34 => ?_)
      · rw [hs34] at r34
        dsimp only [aftM] at r34
        have hd : decide (((v17.Ports.length : Nat) : Int) < (((v17.Ports.map LinkT.cells).length : Nat) : Int)) = false := by rw [decide_eq_false_iff_not]; (try simp only [se_len, se_ch, List.length_map]); omega
        refine LoopW.round TT_ok [0, 1, 2, 3, 4, 5, 10, 11, 12, 13, 14, 20, 21, 22, 23, 32, 33, 34, 35, 79] ?_
        conv => whnf
        repeat' first | with_reducible rfl | with_reducible exact True.intro | with_reducible assumption | refine parkI ?_ | (refine And.intro ?_ ?_ <;> conv => whnf) | fail
        refine parkE (fun hc => ?_) (fun hc => ?_)
        · exact (Bool.false_ne_true (hd.symm.trans hc)).elim
        · clear hd
          conv => whnf
          repeat' first | with_reducible rfl | with_reducible exact True.intro | with_reducible assumption | refine parkI ?_ | (refine And.intro ?_ ?_ <;> conv => whnf) | fail
          have e := Option.some.inj r34
          refine LoopW.norm [(1, (LV.ro 1 (a1.map (roC 1 bC)))), (2, (I a2)), (3, (I a3)), (4, (I a4)), (5, (LV.ptr 0 0 0)), (20, (LV.ro 3 (v15.Ports.map LinkT.cells))), (21, (I (((v15.Ports.map LinkT.cells).length : Nat) : Int))), (22, (I ((k33 + 1 : Nat) : Int)))] 1 [(0, (.row 47 3 [[(I a0.Segs), (LV.ro 2 (a0.Plans.map PlanT.cells)), (LV.ro 2 (a0.Hosts.map HostT.cells))]]))] ⟨rfl, rfl, rfl, rfl, rfl, rfl, rfl, (congrArg (LV.int .i64) (w64_nat _ (by omega))), trivial⟩ ⟨⟨rfl, rfl, (by repeat' first | exact True.intro | exact rfl | exact NLs_bels (by assumption) | refine ⟨?_, ?_⟩)⟩, trivial⟩ (by repeat' first | exact True.intro | exact rfl | exact NLs_bels (by assumption) | refine ⟨?_, ?_⟩) rfl (K33 _ e.symm)
      · unfold ref17_leads_b34 at b34
        have hd : decide (((k34 : Nat) : Int) < (((v17.Ports.map LinkT.cells).length : Nat) : Int)) = true := by rw [decide_eq_true_eq]; (try simp only [se_len, se_ch, List.length_map] at hk34); (try simp only [se_len, se_ch, List.length_map]); omega
        refine LoopW.round TT_ok [0, 1, 2, 3, 4, 5, 10, 11, 12, 13, 14, 20, 21, 22, 23, 32, 33, 34, 35, 79] ?_
        conv => whnf
        repeat' first | with_reducible rfl | with_reducible exact True.intro | with_reducible assumption | refine parkI ?_ | (refine And.intro ?_ ?_ <;> conv => whnf) | fail
        refine parkE (fun hc => ?_) (fun hc => ?_)
        · clear hd
          conv => whnf
          replace b34 := bindS b34
          obtain ⟨v19, hv19, b34⟩ := b34
          have i20 := fun hg => gixF (f := (roC 1 bC)) (gdS hg hv19)
          replace b34 := bindS b34
          obtain ⟨v21, hv21, b34⟩ := b34
          have i22 := fun hg => gixF (f := bC) (gdS hg hv21)
          replace b34 := bindS b34
          obtain ⟨v23, hv23, b34⟩ := b34
          have i24 := fun hg => gixF (f := (roC 1 bC)) (gdS hg hv23)
          replace b34 := bindS b34
          obtain ⟨v25, hv25, b34⟩ := b34
          have i26 := fun hg => gixF (f := bC) (gdS hg hv25)
          repeat' first | with_reducible rfl | with_reducible exact True.intro | with_reducible assumption | refine parkI ?_ | (refine ⟨_, (kixF (f := LinkT.cells) hx34), ?_⟩; conv => whnf) | (refine ⟨_, i20, ?_⟩; conv => whnf) | (refine ⟨_, i22, ?_⟩; conv => whnf) | (refine ⟨_, i24, ?_⟩; conv => whnf) | (refine ⟨_, i26, ?_⟩; conv => whnf) | exact (congrArg Bool.not h) | exact fun _ => True.intro | (refine And.intro ?_ ?_ <;> conv => whnf) | (intro h; (conv => whnf) <;> first | with_reducible rfl | assumption | exact h | exact (congrArg Bool.not h) | (refine ⟨h, True.intro⟩) | (refine ⟨congrArg Bool.not h, True.intro⟩) | (refine ⟨by assumption, True.intro⟩)) | (intro h; exact (Bool.false_ne_true (h.symm.trans (by assumption))).elim) | (intros; simp_all; done) | (refine gand ?_ h; assumption) | fail
          refine parkE (fun hc => ?_) (fun hc => ?_)
          · replace b34 := condT hc b34
            conv => whnf
            have e := Option.some.inj b34
            replace e := hret34 _ e.symm
            rw [e] at r34
            replace e := Option.some.inj r34
            replace e := hret33 _ e.symm
            rw [e] at r33
            replace e := Option.some.inj r33
            subst e
            repeat' first | with_reducible rfl | with_reducible exact True.intro | with_reducible assumption | exact (congrArg Bool.not h) | exact fun _ => True.intro | exact (rfl : (_ : Nat) = _) | exact (rfl : (_ : LV) = _) | exact NLss_map' _ | refine NLss_app ?_ ?_ | refine NLss_set ?_ ?_ | (refine And.intro ?_ ?_ <;> conv => whnf) | (intro h; (conv => whnf) <;> first | with_reducible rfl | assumption | exact h | exact (congrArg Bool.not h) | (refine ⟨h, True.intro⟩) | (refine ⟨congrArg Bool.not h, True.intro⟩) | (refine ⟨by assumption, True.intro⟩)) | (intro h; exact (Bool.false_ne_true (h.symm.trans (by assumption))).elim) | (intros; simp_all; done) | (refine gand ?_ h; assumption) | (simp only [se_map, se_byL]; exact rfl) | (simp only [se_map, se_byL, se_len, se_ch, List.length_map]; done) | fail
          · replace b34 := condF hc b34
            conv => whnf
            repeat' first | with_reducible rfl | with_reducible exact True.intro | with_reducible assumption | refine parkI ?_ | (refine And.intro ?_ ?_ <;> conv => whnf) | fail
            have e := Option.some.inj b34
            refine LoopW.norm [(1, (LV.ro 1 (a1.map (roC 1 bC)))), (2, (I a2)), (3, (I a3)), (4, (I a4)), (5, (LV.ptr 0 0 0)), (11, (I ((k33 : Nat) : Int))), (12, (LV.ptr 1 0 0)), (20, (LV.ro 3 (v15.Ports.map LinkT.cells))), (21, (I (((v15.Ports.map LinkT.cells).length : Nat) : Int))), (22, (I ((k33 : Nat) : Int))), (32, (LV.ro 3 (v17.Ports.map LinkT.cells))), (33, (I (((v17.Ports.map LinkT.cells).length : Nat) : Int))), (34, (I ((k34 + 1 : Nat) : Int)))] 2 [(0, (.row 47 3 [[(I a0.Segs), (LV.ro 2 (a0.Plans.map PlanT.cells)), (LV.ro 2 (a0.Hosts.map HostT.cells))]])), (1, (.row 55 3 [[(I x33.Seg), (I x33.Cost), (LV.bool x33.Up)]]))] ⟨rfl, rfl, rfl, rfl, rfl, rfl, rfl, rfl, rfl, rfl, rfl, rfl, (congrArg (LV.int .i64) (w64_nat _ (by omega))), trivial⟩ ⟨⟨rfl, rfl, (by repeat' first | exact True.intro | exact rfl | exact NLs_bels (by assumption) | refine ⟨?_, ?_⟩)⟩, ⟨⟨rfl, rfl, (by repeat' first | exact True.intro | exact rfl | exact NLs_bels (by assumption) | refine ⟨?_, ?_⟩)⟩, trivial⟩⟩ (by repeat' first | exact True.intro | exact rfl | exact NLs_bels (by assumption) | refine ⟨?_, ?_⟩) rfl (K34 _ e.symm)
        · exact (Bool.false_ne_true (hc.symm.trans hd)).elim
    · exact (Bool.false_ne_true (hc.symm.trans hd)).elim

def ref17_Next_b32 (a0 : LanT) (a1 : (List (List Bool))) (a2 : Int) (a3 : Int) (k32 : Nat) (x32 : PlanT) (s32 : Unit) : Option (Step Bool Unit) :=
  (ref17_leads a0 a1 ((k32 : Nat) : Int) a2 a3).bind fun y27 =>
  (bif y27 then
    some (.ret true)
  else
    some (.nxt ()))

def ref17_Next (a0 : LanT) (a1 : (List (List Bool))) (a2 : Int) (a3 : Int) : Option Bool :=
  aft (rangeL (ref17_Next_b32 a0 a1 a2 a3) a0.Plans ()) fun s32 =>
  some false

theorem c_ref17_Next (a0 : LanT) (a1 : (List (List Bool))) (a2 : Int) (a3 : Int) (r : Bool) (h : ref17_Next a0 a1 a2 a3 = some r) : CallP Try.prog 216 [(LV.agg [(I a0.Segs), (LV.ro 2 (a0.Plans.map PlanT.cells)), (LV.ro 2 (a0.Hosts.map HostT.cells))]), (LV.ro 1 (a1.map (roC 1 bC))), (I a2), (I a3)] (LV.bool r) := by
  unfold ref17_Next at h
  refine .intro (by repeat' first | exact True.intro | assumption | refine ⟨?_, ?_⟩) (.intro TT_ok Try.func216 rfl rfl [0, 1, 2, 3, 4, 8, 9, 12, 13, 14, 21] rfl ?_)
  conv => whnf
  repeat' first | with_reducible rfl | with_reducible exact True.intro | with_reducible assumption | refine parkI ?_ | (refine And.intro ?_ ?_ <;> conv => whnf) | fail
  replace h := aftS h
  obtain ⟨O32, hO32, r32⟩ := h
  refine LoopW.norm [(1, (LV.ro 1 (a1.map (roC 1 bC)))), (2, (I a2)), (3, (I a3)), (4, (LV.ptr 0 0 0)), (12, (I (((a0.Plans.map PlanT.cells).length : Nat) : Int))), (13, (I ((0 : Nat) : Int)))] 1 [(0, (.row 47 3 [[(I a0.Segs), (LV.ro 2 (a0.Plans.map PlanT.cells)), (LV.ro 2 (a0.Hosts.map HostT.cells))]]))] ⟨rfl, rfl, rfl, rfl, rfl, rfl, trivial⟩ ⟨⟨rfl, rfl, (by repeat' first | exact True.intro | exact rfl | exact NLs_bels (by assumption) | refine ⟨?_, ?_⟩)⟩, trivial⟩ (by repeat' first | exact True.intro | exact rfl | exact NLs_bels (by assumption) | refine ⟨?_, ?_⟩) rfl ?_
  refine LoopW.forR (fun k32 s32 => [(1, (LV.ro 1 (a1.map (roC 1 bC)))), (2, (I a2)), (3, (I a3)), (4, (LV.ptr 0 0 0)), (12, (I (((a0.Plans.map PlanT.cells).length : Nat) : Int))), (13, (I ((k32 : Nat) : Int)))]) (fun s32 => ⟨1, [(0, (.row 47 3 [[(I a0.Segs), (LV.ro 2 (a0.Plans.map PlanT.cells)), (LV.ro 2 (a0.Hosts.map HostT.cells))]]))]⟩) hO32 (fun hl32 s32 hs32 => ?_) (fun hl32 k32 x32 s32 o32 hk32 hx32 b32 K32 hret32 hbrk32 => ?_)
  · rw [hs32] at r32
    dsimp only [aftM] at r32
    have hd : decide (((a0.Plans.length : Nat) : Int) < (((a0.Plans.map PlanT.cells).length : Nat) : Int)) = false := by rw [decide_eq_false_iff_not]; (try simp only [se_len, se_ch, List.length_map]); omega
    refine LoopW.round TT_ok [0, 1, 2, 3, 4, 8, 9, 12, 13, 14, 21] ?_
    conv => whnf
    repeat' first | with_reducible rfl | with_reducible exact True.intro | with_reducible assumption | refine parkI ?_ | (refine And.intro ?_ ?_ <;> conv => whnf) | fail
    refine parkE (fun hc => ?_) (fun hc => ?_)
    · exact (Bool.false_ne_true (hd.symm.trans hc)).elim
    · clear hd
      conv => whnf
      have e := Option.some.inj r32
      subst e
      repeat' first | with_reducible rfl | with_reducible exact True.intro | with_reducible assumption | exact (congrArg Bool.not h) | exact fun _ => True.intro | exact (rfl : (_ : Nat) = _) | exact (rfl : (_ : LV) = _) | exact NLss_map' _ | refine NLss_app ?_ ?_ | refine NLss_set ?_ ?_ | (refine And.intro ?_ ?_ <;> conv => whnf) | (intro h; (conv => whnf) <;> first | with_reducible rfl | assumption | exact h | exact (congrArg Bool.not h) | (refine ⟨h, True.intro⟩) | (refine ⟨congrArg Bool.not h, True.intro⟩) | (refine ⟨by assumption, True.intro⟩)) | (intro h; exact (Bool.false_ne_true (h.symm.trans (by assumption))).elim) | (intros; simp_all; done) | (refine gand ?_ h; assumption) | (simp only [se_map, se_byL]; exact rfl) | (simp only [se_map, se_byL, se_len, se_ch, List.length_map]; done) | fail
  · unfold ref17_Next_b32 at b32
    have hd : decide (((k32 : Nat) : Int) < (((a0.Plans.map PlanT.cells).length : Nat) : Int)) = true := by rw [decide_eq_true_eq]; (try simp only [se_len, se_ch, List.length_map] at hk32); (try simp only [se_len, se_ch, List.length_map]); omega
    refine LoopW.round TT_ok [0, 1, 2, 3, 4, 8, 9, 12, 13, 14, 21] ?_
    conv => whnf
    repeat' first | with_reducible rfl | with_reducible exact True.intro | with_reducible assumption | refine parkI ?_ | (refine And.intro ?_ ?_ <;> conv => whnf) | fail
    refine parkE (fun hc => ?_) (fun hc => ?_)
    · clear hd
      conv => whnf
      replace b32 := bindS b32
      obtain ⟨y27, hy27, b32⟩ := b32
      have c28 := c_ref17_leads a0 a1 ((k32 : Nat) : Int) a2 a3 _ hy27
      repeat' first | with_reducible rfl | with_reducible exact True.intro | with_reducible assumption | refine parkI ?_ | (refine CallP.use c28 ?_; conv => whnf) | (refine And.intro ?_ ?_ <;> conv => whnf) | fail
      refine parkE (fun hc => ?_) (fun hc => ?_)
      · replace b32 := condT hc b32
        conv => whnf
        have e := Option.some.inj b32
        replace e := hret32 _ e.symm
        rw [e] at r32
        replace e := Option.some.inj r32
        subst e
        repeat' first | with_reducible rfl | with_reducible exact True.intro | with_reducible assumption | exact (congrArg Bool.not h) | exact fun _ => True.intro | exact (rfl : (_ : Nat) = _) | exact (rfl : (_ : LV) = _) | exact NLss_map' _ | refine NLss_app ?_ ?_ | refine NLss_set ?_ ?_ | (refine And.intro ?_ ?_ <;> conv => whnf) | (intro h; (conv => whnf) <;> first | with_reducible rfl | assumption | exact h | exact (congrArg Bool.not h) | (refine ⟨h, True.intro⟩) | (refine ⟨congrArg Bool.not h, True.intro⟩) | (refine ⟨by assumption, True.intro⟩)) | (intro h; exact (Bool.false_ne_true (h.symm.trans (by assumption))).elim) | (intros; simp_all; done) | (refine gand ?_ h; assumption) | (simp only [se_map, se_byL]; exact rfl) | (simp only [se_map, se_byL, se_len, se_ch, List.length_map]; done) | fail
      · replace b32 := condF hc b32
        conv => whnf
        repeat' first | with_reducible rfl | with_reducible exact True.intro | with_reducible assumption | refine parkI ?_ | (refine And.intro ?_ ?_ <;> conv => whnf) | fail
        have e := Option.some.inj b32
        refine LoopW.norm [(1, (LV.ro 1 (a1.map (roC 1 bC)))), (2, (I a2)), (3, (I a3)), (4, (LV.ptr 0 0 0)), (12, (I (((a0.Plans.map PlanT.cells).length : Nat) : Int))), (13, (I ((k32 + 1 : Nat) : Int)))] 1 [(0, (.row 47 3 [[(I a0.Segs), (LV.ro 2 (a0.Plans.map PlanT.cells)), (LV.ro 2 (a0.Hosts.map HostT.cells))]]))] ⟨rfl, rfl, rfl, rfl, rfl, (congrArg (LV.int .i64) (w64_nat _ (by omega))), trivial⟩ ⟨⟨rfl, rfl, (by repeat' first | exact True.intro | exact rfl | exact NLs_bels (by assumption) | refine ⟨?_, ?_⟩)⟩, trivial⟩ (by repeat' first | exact True.intro | exact rfl | exact NLs_bels (by assumption) | refine ⟨?_, ?_⟩) rfl (K32 _ e.symm)
    · exact (Bool.false_ne_true (hc.symm.trans hd)).elim

def ref17_Steps_b28 (a0 : LanT) (s28 : ((List Int) × Int)) : Option (Step (List Int) ((List Int) × Int)) :=
  (bif (decide (s28.2 < a0.Segs)) then
    grd (fits ((s28.1 ++ ([(-1)] : (List Int))) : List Int).length 8) <|
    some (.nxt ((s28.1 ++ ([(-1)] : (List Int))), (IntKind.i64.wrap (s28.2 + 1))))
  else
    some (.brk (s28.1, s28.2)))

def ref17_Steps_b31 (a0 : LanT) (a1 : (List (List Bool))) (s29 : (Int × (List Int))) (k30 : Nat) (k31 : Nat) (s31 : (List Int)) : Option (Step (Step (Step (List Int) (Int × (List Int))) (List Int)) (List Int)) :=
  grd ((0 : Int) ≤ ((k31 : Nat) : Int) ∧ ((k31 : Nat) : Int) < ((s31.length : Nat) : Int)) <|
  (gixN s31 (((k31 : Nat) : Int) : Int).toNat).bind fun v22 =>
  grd (((decide (v22 < 0)) = true → (0 : Int) ≤ ((k30 : Nat) : Int) ∧ ((k30 : Nat) : Int) < ((s31.length : Nat) : Int))) <|
  (gixN s31 (((k30 : Nat) : Int) : Int).toNat).bind fun v25 =>
  (gd (bif (decide (v22 < 0)) then (decide (v25 = (IntKind.i64.wrap (s29.1 - 1)))) else false) (ref17_Next a0 a1 ((k30 : Nat) : Int) ((k31 : Nat) : Int))).bind fun y27 =>
  (bif (bif (bif (decide (v22 < 0)) then (decide (v25 = (IntKind.i64.wrap (s29.1 - 1)))) else false) then y27 else false) then
    grd ((0 : Int) ≤ ((k31 : Nat) : Int) ∧ ((k31 : Nat) : Int) < ((s31.length : Nat) : Int)) <|
    some (.nxt (s31.set (((k31 : Nat) : Int) : Int).toNat s29.1))
  else
    some (.nxt s31))

def ref17_Steps_b30 (a0 : LanT) (a1 : (List (List Bool))) (s29 : (Int × (List Int))) (k30 : Nat) (s30 : (List Int)) : Option (Step (Step (List Int) (Int × (List Int))) (List Int)) :=
  aft (rangeN (ref17_Steps_b31 a0 a1 s29 k30) ((s30.length : Nat) : Int) s30) fun s31 =>
  some (.nxt s31)

def ref17_Steps_b29 (a0 : LanT) (a1 : (List (List Bool))) (s29 : (Int × (List Int))) : Option (Step (List Int) (Int × (List Int))) :=
  (bif (decide (s29.1 < a0.Segs)) then
    aft (rangeN (ref17_Steps_b30 a0 a1 s29) ((s29.2.length : Nat) : Int) s29.2) fun s30 =>
    some (.nxt ((IntKind.i64.wrap (s29.1 + 1)), s30))
  else
    some (.brk (s29.1, s29.2)))

def ref17_Steps (a0 : LanT) (a1 : (List (List Bool))) (a2 : Int) : Option (List Int) :=
  aft (loopF 1000000 (ref17_Steps_b28 a0) (([] : (List Int)), 0)) fun s28 =>
  grd ((0 : Int) ≤ a2 ∧ a2 < ((s28.1.length : Nat) : Int)) <|
  (gixN s28.1 (a2 : Int).toNat).bind fun v19 =>
  aft (loopF 1000000 (ref17_Steps_b29 a0 a1) (1, (s28.1.set (a2 : Int).toNat 0))) fun s29 =>
  some s29.2

theorem cf_ref17_Steps (a0 : LanT) (a1 : (List (List Bool))) (a2 : Int) (r : (List Int)) (h : ref17_Steps a0 a1 a2 = some r) : CallF Try.prog 111 [(LV.agg [(I a0.Segs), (LV.ro 2 (a0.Plans.map PlanT.cells)), (LV.ro 2 (a0.Hosts.map HostT.cells))]), (LV.ro 1 (a1.map (roC 1 bC))), (I a2)] 3 1 (r.map iC) := by
  unfold ref17_Steps at h
  refine CallF.of (NLss_map' _) (CallW.intro TT_ok Try.func111 rfl rfl [0, 1, 2, 3, 6, 7, 8, 9, 10, 11, 16, 28, 32, 33, 34, 37, 38, 39, 61] rfl ?_)
  conv => whnf
  repeat' first | with_reducible rfl | with_reducible exact True.intro | with_reducible assumption | refine parkI ?_ | (refine And.intro ?_ ?_ <;> conv => whnf) | fail
  replace h := aftS h
  obtain ⟨O28, hO28, r28⟩ := h
  refine LoopW.norm [(1, (LV.ro 1 (a1.map (roC 1 bC)))), (2, (I a2)), (3, (LV.ptr 0 0 0)), (7, (LV.sl 1 0 ((([] : (List Int)), 0).1.map iC).length)), (8, (I (([] : (List Int)), 0).2))] 2 [(0, (.row 47 3 [[(I a0.Segs), (LV.ro 2 (a0.Plans.map PlanT.cells)), (LV.ro 2 (a0.Hosts.map HostT.cells))]])), (1, (.row 3 1 ((([] : (List Int)), 0).1.map iC)))] ⟨rfl, rfl, rfl, (by exact congrArg (LV.sl 1 0) (by first | (simp only [se_map, se_byL, se_len, se_ch, List.length_map]; done) | ((try simp only [se_map, se_byL, se_len, se_ch, List.length_map]); (try simp only [se_len, se_ch, List.length_map] at *); omega) : 0 = ((([] : (List Int)), 0).1.map iC).length)), (by simp only [se_map, se_byL, se_len, se_ch, List.length_map] : ((I 0) : LV) = (I (([] : (List Int)), 0).2)), trivial⟩ ⟨⟨rfl, rfl, (by repeat' first | exact True.intro | exact rfl | exact NLs_bels (by assumption) | refine ⟨?_, ?_⟩)⟩, ⟨⟨(congrArg (fun q => some (Blk.row 3 1 q)) (by simp only [se_map, se_byL, se_len, se_ch, List.length_map] : (([] : List (List LV)) : List (List LV)) = ((([] : (List Int)), 0).1.map iC))), rfl, NLss_bel (NLss_map' _)⟩, trivial⟩⟩ (by repeat' first | exact True.intro | exact rfl | exact NLs_bels (by assumption) | refine ⟨?_, ?_⟩) rfl ?_
  refine LoopW.forF (fun s28 => [(1, (LV.ro 1 (a1.map (roC 1 bC)))), (2, (I a2)), (3, (LV.ptr 0 0 0)), (7, (LV.sl 1 0 (s28.1.map iC).length)), (8, (I s28.2))]) (fun s28 => ⟨2, [(0, (.row 47 3 [[(I a0.Segs), (LV.ro 2 (a0.Plans.map PlanT.cells)), (LV.ro 2 (a0.Hosts.map HostT.cells))]])), (1, (.row 3 1 (s28.1.map iC)))]⟩) hO28 (fun s28 o28 b28 K28 hret28 hbrk28 => ?_)
  unfold ref17_Steps_b28 at b28
  refine LoopW.round TT_ok [0, 1, 2, 3, 6, 7, 8, 9, 10, 11, 16, 28, 32, 33, 34, 37, 38, 39, 61] ?_
  conv => whnf
  repeat' first | with_reducible rfl | with_reducible exact True.intro | with_reducible assumption | refine parkI ?_ | (refine And.intro ?_ ?_ <;> conv => whnf) | fail
  refine parkE (fun hc => ?_) (fun hc => ?_)
  · replace b28 := condT hc b28
    conv => whnf
    replace b28 := grdS b28
    obtain ⟨g5, b28⟩ := b28
    replace g5 : fits (((s28.1.map iC) ++ [[(I (-1))]])).length 8 := by simpa only [se_len, se_ch, List.length_map] using g5
    repeat' first | with_reducible rfl | with_reducible exact True.intro | with_reducible assumption | refine parkI ?_ | exact g5 | exact (rfl : (_ : Nat) = _) | exact NLss_map' _ | refine NLss_app ?_ ?_ | refine NLss_set ?_ ?_ | (refine And.intro ?_ ?_ <;> conv => whnf) | (simp only [se_map, se_byL]; exact rfl) | (simp only [se_map, se_byL, se_len, se_ch, List.length_map]; done) | fail
    have e := Option.some.inj b28
    refine LoopW.ren [(0, 0), (3, 1)] [(1, (LV.ro 1 (a1.map (roC 1 bC)))), (2, (I a2)), (3, (LV.ptr 0 0 0)), (7, (LV.sl 1 0 (((s28.1 ++ ([(-1)] : (List Int))), (IntKind.i64.wrap (s28.2 + 1))).1.map iC).length)), (8, (I ((s28.1 ++ ([(-1)] : (List Int))), (IntKind.i64.wrap (s28.2 + 1))).2))] 2 [(0, (.row 47 3 [[(I a0.Segs), (LV.ro 2 (a0.Plans.map PlanT.cells)), (LV.ro 2 (a0.Hosts.map HostT.cells))]])), (1, (.row 3 1 (((s28.1 ++ ([(-1)] : (List Int))), (IntKind.i64.wrap (s28.2 + 1))).1.map iC)))] rfl ⟨rfl, rfl, rfl, (by exact congrArg (LV.sl 1 0) (by first | (simp only [se_map, se_byL, se_len, se_ch, List.length_map]; done) | ((try simp only [se_map, se_byL, se_len, se_ch, List.length_map]); (try simp only [se_len, se_ch, List.length_map] at *); omega) : (((s28.1.map iC) ++ [[(I (-1))]])).length = (((s28.1 ++ ([(-1)] : (List Int))), (IntKind.i64.wrap (s28.2 + 1))).1.map iC).length)), (by simp only [se_map, se_byL, se_len, se_ch, List.length_map] : ((I (IntKind.i64.wrap (s28.2 + 1))) : LV) = (I ((s28.1 ++ ([(-1)] : (List Int))), (IntKind.i64.wrap (s28.2 + 1))).2)), trivial⟩ ⟨⟨rfl, rfl, .inl ⟨rfl, (by repeat' first | exact NLss_map' _ | refine NLss_app ?_ ?_ | refine NLss_set ?_ ?_ | exact True.intro | refine ⟨?_, ?_⟩)⟩⟩, rfl, rfl, ⟨⟨rfl, rfl, .inl ⟨(by simp only [se_map, se_byL, se_len, se_ch, List.length_map] : (((s28.1.map iC) ++ [[(I (-1))]]) : List (List LV)) = (((s28.1 ++ ([(-1)] : (List Int))), (IntKind.i64.wrap (s28.2 + 1))).1.map iC)), (by repeat' first | exact NLss_map' _ | refine NLss_app ?_ ?_ | refine NLss_set ?_ ?_ | exact True.intro | refine ⟨?_, ?_⟩)⟩⟩, rfl, rfl, trivial⟩⟩ rfl (K28 _ e.symm)
  · replace b28 := condF hc b28
    conv => whnf
    have e := Option.some.inj b28
    replace e := hbrk28 _ e.symm
    rw [e] at r28
    dsimp only [aftM] at r28
    replace r28 := grdS r28
    obtain ⟨g6, r28⟩ := r28
    replace g6 : (0 : Int) ≤ a2 ∧ a2 < (((s28.1.map iC).length : Nat) : Int) := by simpa only [se_len, se_ch, List.length_map] using g6
    replace r28 := bindS r28
    obtain ⟨v7, hv7, r28⟩ := r28
    have i8 : nth (s28.1.map iC) (0 + ((a2 : Int).toNat)) = some [(I v7)] := by simpa only [se_map, se_len, se_ch, List.length_map, nth_eq, Nat.zero_add, List.getElem?_map] using gixNF (f := iC) hv7
    repeat' first | with_reducible rfl | with_reducible exact True.intro | with_reducible assumption | refine parkI ?_ | exact g6 | (rw [i8]; conv => whnf) | (refine And.intro ?_ ?_ <;> conv => whnf) | fail
    replace r28 := aftS r28
    obtain ⟨O29, hO29, r29⟩ := r28
    refine LoopW.norm [(1, (LV.ro 1 (a1.map (roC 1 bC)))), (3, (LV.ptr 0 0 0)), (7, (LV.sl 1 0 ((1, (s28.1.set (a2 : Int).toNat 0)).2.map iC).length)), (9, (I (1, (s28.1.set (a2 : Int).toNat 0)).1))] 2 [(0, (.row 47 3 [[(I a0.Segs), (LV.ro 2 (a0.Plans.map PlanT.cells)), (LV.ro 2 (a0.Hosts.map HostT.cells))]])), (1, (.row 3 1 ((1, (s28.1.set (a2 : Int).toNat 0)).2.map iC)))] ⟨rfl, rfl, (by exact congrArg (LV.sl 1 0) (by first | (simp only [se_map, se_byL, se_len, se_ch, List.length_map]; done) | ((try simp only [se_map, se_byL, se_len, se_ch, List.length_map]); (try simp only [se_len, se_ch, List.length_map] at *); omega) : (s28.1.map iC).length = ((1, (s28.1.set (a2 : Int).toNat 0)).2.map iC).length)), (by simp only [se_map, se_byL, se_len, se_ch, List.length_map] : ((I 1) : LV) = (I (1, (s28.1.set (a2 : Int).toNat 0)).1)), trivial⟩ ⟨⟨rfl, rfl, (by repeat' first | exact True.intro | exact rfl | exact NLs_bels (by assumption) | refine ⟨?_, ?_⟩)⟩, ⟨⟨(congrArg (fun q => some (Blk.row 3 1 q)) (by simp only [se_map, se_byL, se_len, se_ch, List.length_map] : ((setN (s28.1.map iC) (0 + ((a2 : Int).toNat)) [(I 0)]) : List (List LV)) = ((1, (s28.1.set (a2 : Int).toNat 0)).2.map iC))), rfl, NLss_bel (NLss_map' _)⟩, trivial⟩⟩ (by repeat' first | exact True.intro | exact rfl | exact NLs_bels (by assumption) | refine ⟨?_, ?_⟩) rfl ?_
    refine LoopW.forF (fun s29 => [(1, (LV.ro 1 (a1.map (roC 1 bC)))), (3, (LV.ptr 0 0 0)), (7, (LV.sl 1 0 (s29.2.map iC).length)), (9, (I s29.1))]) (fun s29 => ⟨2, [(0, (.row 47 3 [[(I a0.Segs), (LV.ro 2 (a0.Plans.map PlanT.cells)), (LV.ro 2 (a0.Hosts.map HostT.cells))]])), (1, (.row 3 1 (s29.2.map iC)))]⟩) hO29 (fun s29 o29 b29 K29 hret29 hbrk29 => ?_)
    unfold ref17_Steps_b29 at b29
    refine LoopW.round TT_ok [0, 1, 2, 3, 6, 7, 8, 9, 10, 11, 16, 28, 32, 33, 34, 37, 38, 39, 61] ?_
    conv => whnf
    repeat' first | with_reducible rfl | with_reducible exact True.intro | with_reducible assumption | refine parkI ?_ | (refine And.intro ?_ ?_ <;> conv => whnf) | fail
    refine parkE (fun hc => ?_) (fun hc => ?_)
    · replace b29 := condT hc b29
      conv => whnf
      repeat' first | with_reducible rfl | with_reducible exact True.intro | with_reducible assumption | refine parkI ?_ | (refine And.intro ?_ ?_ <;> conv => whnf) | fail
      replace b29 := aftS b29
      obtain ⟨O30, hO30, r30⟩ := b29
      refine LoopW.norm [(1, (LV.ro 1 (a1.map (roC 1 bC)))), (3, (LV.ptr 0 0 0)), (7, (LV.sl 1 0 (s29.2.map iC).length)), (9, (I s29.1)), (32, (I (((s29.2.map iC).length : Nat) : Int))), (33, (I ((0 : Nat) : Int)))] 2 [(0, (.row 47 3 [[(I a0.Segs), (LV.ro 2 (a0.Plans.map PlanT.cells)), (LV.ro 2 (a0.Hosts.map HostT.cells))]])), (1, (.row 3 1 (s29.2.map iC)))] ⟨rfl, rfl, rfl, rfl, rfl, rfl, trivial⟩ ⟨⟨rfl, rfl, (by repeat' first | exact True.intro | exact rfl | exact NLs_bels (by assumption) | refine ⟨?_, ?_⟩)⟩, ⟨⟨rfl, rfl, NLss_bel (NLss_map' _)⟩, trivial⟩⟩ (by repeat' first | exact True.intro | exact rfl | exact NLs_bels (by assumption) | refine ⟨?_, ?_⟩) rfl ?_
      refine LoopW.forN (fun k30 s30 => [(1, (LV.ro 1 (a1.map (roC 1 bC)))), (3, (LV.ptr 0 0 0)), (7, (LV.sl 1 0 (s30.map iC).length)), (9, (I s29.1)), (32, (I (((s29.2.map iC).length : Nat) : Int))), (33, (I ((k30 : Nat) : Int)))]) (fun s30 => ⟨2, [(0, (.row 47 3 [[(I a0.Segs), (LV.ro 2 (a0.Plans.map PlanT.cells)), (LV.ro 2 (a0.Hosts.map HostT.cells))]])), (1, (.row 3 1 (s30.map iC)))]⟩) hO30 (fun hl30 s30 hs30 => ?_) (fun hl30 k30 s30 o30 hk30 b30 K30 hret30 hbrk30 => ?_)
      · rw [hs30] at r30
        dsimp only [aftM] at r30
        have hd : decide ((((((s29.2.length : Nat) : Int)).toNat : Nat) : Int) < (((s29.2.map iC).length : Nat) : Int)) = false := by rw [decide_eq_false_iff_not]; (try simp only [se_len, se_ch, List.length_map]); omega
        refine LoopW.round TT_ok [0, 1, 2, 3, 6, 7, 8, 9, 10, 11, 16, 28, 32, 33, 34, 37, 38, 39, 61] ?_
        conv => whnf
        repeat' first | with_reducible rfl | with_reducible exact True.intro | with_reducible assumption | refine parkI ?_ | (refine And.intro ?_ ?_ <;> conv => whnf) | fail
        refine parkE (fun hc => ?_) (fun hc => ?_)
        · exact (Bool.false_ne_true (hd.symm.trans hc)).elim
        · clear hd
          conv => whnf
          repeat' first | with_reducible rfl | with_reducible exact True.intro | with_reducible assumption | refine parkI ?_ | (refine And.intro ?_ ?_ <;> conv => whnf) | fail
          have e := Option.some.inj r30
          refine LoopW.norm [(1, (LV.ro 1 (a1.map (roC 1 bC)))), (3, (LV.ptr 0 0 0)), (7, (LV.sl 1 0 (((IntKind.i64.wrap (s29.1 + 1)), s30).2.map iC).length)), (9, (I ((IntKind.i64.wrap (s29.1 + 1)), s30).1))] 2 [(0, (.row 47 3 [[(I a0.Segs), (LV.ro 2 (a0.Plans.map PlanT.cells)), (LV.ro 2 (a0.Hosts.map HostT.cells))]])), (1, (.row 3 1 (((IntKind.i64.wrap (s29.1 + 1)), s30).2.map iC)))] ⟨rfl, rfl, (by exact congrArg (LV.sl 1 0) (by first | (simp only [se_map, se_byL, se_len, se_ch, List.length_map]; done) | ((try simp only [se_map, se_byL, se_len, se_ch, List.length_map]); (try simp only [se_len, se_ch, List.length_map] at *); omega) : (s30.map iC).length = (((IntKind.i64.wrap (s29.1 + 1)), s30).2.map iC).length)), (by simp only [se_map, se_byL, se_len, se_ch, List.length_map] : ((I (IntKind.i64.wrap (s29.1 + 1))) : LV) = (I ((IntKind.i64.wrap (s29.1 + 1)), s30).1)), trivial⟩ ⟨⟨rfl, rfl, (by repeat' first | exact True.intro | exact rfl | exact NLs_bels (by assumption) | refine ⟨?_, ?_⟩)⟩, ⟨⟨(congrArg (fun q => some (Blk.row 3 1 q)) (by simp only [se_map, se_byL, se_len, se_ch, List.length_map] : ((s30.map iC) : List (List LV)) = (((IntKind.i64.wrap (s29.1 + 1)), s30).2.map iC))), rfl, NLss_bel (NLss_map' _)⟩, trivial⟩⟩ (by repeat' first | exact True.intro | exact rfl | exact NLs_bels (by assumption) | refine ⟨?_, ?_⟩) rfl (K29 _ e.symm)
      · unfold ref17_Steps_b30 at b30
        have hd : decide (((k30 : Nat) : Int) < (((s29.2.map iC).length : Nat) : Int)) = true := by rw [decide_eq_true_eq]; (try simp only [se_len, se_ch, List.length_map] at hk30); (try simp only [se_len, se_ch, List.length_map]); omega
        refine LoopW.round TT_ok [0, 1, 2, 3, 6, 7, 8, 9, 10, 11, 16, 28, 32, 33, 34, 37, 38, 39, 61] ?_
        conv => whnf
        repeat' first | with_reducible rfl | with_reducible exact True.intro | with_reducible assumption | refine parkI ?_ | (refine And.intro ?_ ?_ <;> conv => whnf) | fail
        refine parkE (fun hc => ?_) (fun hc => ?_)
        · clear hd
          conv => whnf
          repeat' first | with_reducible rfl | with_reducible exact True.intro | with_reducible assumption | refine parkI ?_ | (refine And.intro ?_ ?_ <;> conv => whnf) | fail
          replace b30 := aftS b30
          obtain ⟨O31, hO31, r31⟩ := b30
          refine LoopW.norm [(1, (LV.ro 1 (a1.map (roC 1 bC)))), (3, (LV.ptr 0 0 0)), (7, (LV.sl 1 0 (s30.map iC).length)), (9, (I s29.1)), (10, (I ((k30 : Nat) : Int))), (32, (I (((s29.2.map iC).length : Nat) : Int))), (33, (I ((k30 : Nat) : Int))), (37, (I (((s30.map iC).length : Nat) : Int))), (38, (I ((0 : Nat) : Int)))] 2 [(0, (.row 47 3 [[(I a0.Segs), (LV.ro 2 (a0.Plans.map PlanT.cells)), (LV.ro 2 (a0.Hosts.map HostT.cells))]])), (1, (.row 3 1 (s30.map iC)))] ⟨rfl, rfl, rfl, rfl, rfl, rfl, rfl, rfl, rfl, trivial⟩ ⟨⟨rfl, rfl, (by repeat' first | exact True.intro | exact rfl | exact NLs_bels (by assumption) | refine ⟨?_, ?_⟩)⟩, ⟨⟨rfl, rfl, NLss_bel (NLss_map' _)⟩, trivial⟩⟩ (by repeat' first | exact True.intro | exact rfl | exact NLs_bels (by assumption) | refine ⟨?_, ?_⟩) rfl ?_
          refine LoopW.forN (fun k31 s31 => [(1, (LV.ro 1 (a1.map (roC 1 bC)))), (3, (LV.ptr 0 0 0)), (7, (LV.sl 1 0 (s31.map iC).length)), (9, (I s29.1)), (10, (I ((k30 : Nat) : Int))), (32, (I (((s29.2.map iC).length : Nat) : Int))), (33, (I ((k30 : Nat) : Int))), (37, (I (((s30.map iC).length : Nat) : Int))), (38, (I ((k31 : Nat) : Int)))]) (fun s31 => ⟨2, [(0, (.row 47 3 [[(I a0.Segs), (LV.ro 2 (a0.Plans.map PlanT.cells)), (LV.ro 2 (a0.Hosts.map HostT.cells))]])), (1, (.row 3 1 (s31.map iC)))]⟩) hO31 (fun hl31 s31 hs31 => ?_) (fun hl31 k31 s31 o31 hk31 b31 K31 hret31 hbrk31 => ?_)
          · rw [hs31] at r31
            dsimp only [aftM] at r31
            have hd : decide ((((((s30.length : Nat) : Int)).toNat : Nat) : Int) < (((s30.map iC).length : Nat) : Int)) = false := by rw [decide_eq_false_iff_not]; (try simp only [se_len, se_ch, List.length_map]); omega
            refine LoopW.round TT_ok [0, 1, 2, 3, 6, 7, 8, 9, 10, 11, 16, 28, 32, 33, 34, 37, 38, 39, 61] ?_
            conv => whnf
            repeat' first | with_reducible rfl | with_reducible exact True.intro | with_reducible assumption | refine parkI ?_ | (refine And.intro ?_ ?_ <;> conv => whnf) | fail
            refine parkE (fun hc => ?_) (fun hc => ?_)
            · exact (Bool.false_ne_true (hd.symm.trans hc)).elim
            · clear hd
              conv => whnf
              repeat' first | with_reducible rfl | with_reducible exact True.intro | with_reducible assumption | refine parkI ?_ | (refine And.intro ?_ ?_ <;> conv => whnf) | fail
              have e := Option.some.inj r31
              refine LoopW.norm [(1, (LV.ro 1 (a1.map (roC 1 bC)))), (3, (LV.ptr 0 0 0)), (7, (LV.sl 1 0 (s31.map iC).length)), (9, (I s29.1)), (32, (I (((s29.2.map iC).length : Nat) : Int))), (33, (I ((k30 + 1 : Nat) : Int)))] 2 [(0, (.row 47 3 [[(I a0.Segs), (LV.ro 2 (a0.Plans.map PlanT.cells)), (LV.ro 2 (a0.Hosts.map HostT.cells))]])), (1, (.row 3 1 (s31.map iC)))] ⟨rfl, rfl, rfl, rfl, rfl, (congrArg (LV.int .i64) (w64_nat _ (by omega))), trivial⟩ ⟨⟨rfl, rfl, (by repeat' first | exact True.intro | exact rfl | exact NLs_bels (by assumption) | refine ⟨?_, ?_⟩)⟩, ⟨⟨rfl, rfl, NLss_bel (NLss_map' _)⟩, trivial⟩⟩ (by repeat' first | exact True.intro | exact rfl | exact NLs_bels (by assumption) | refine ⟨?_, ?_⟩) rfl (K30 _ e.symm)
          · unfold ref17_Steps_b31 at b31
            have hd : decide (((k31 : Nat) : Int) < (((s30.map iC).length : Nat) : Int)) = true := by rw [decide_eq_true_eq]; (try simp only [se_len, se_ch, List.length_map] at hk31); (try simp only [se_len, se_ch, List.length_map]); omega
            refine LoopW.round TT_ok [0, 1, 2, 3, 6, 7, 8, 9, 10, 11, 16, 28, 32, 33, 34, 37, 38, 39, 61] ?_
            conv => whnf
            repeat' first | with_reducible rfl | with_reducible exact True.intro | with_reducible assumption | refine parkI ?_ | (refine And.intro ?_ ?_ <;> conv => whnf) | fail
            refine parkE (fun hc => ?_) (fun hc => ?_)
            · clear hd
              conv => whnf
              replace b31 := grdS b31
              obtain ⟨g9, b31⟩ := b31
              replace g9 : (0 : Int) ≤ ((k31 : Nat) : Int) ∧ ((k31 : Nat) : Int) < (((s31.map iC).length : Nat) : Int) := by simpa only [se_len, se_ch, List.length_map] using g9
              replace b31 := bindS b31
              obtain ⟨v10, hv10, b31⟩ := b31
              have i11 : nth (s31.map iC) (0 + ((((k31 : Nat) : Int) : Int).toNat)) = some [(I v10)] := by simpa only [se_map, se_len, se_ch, List.length_map, nth_eq, Nat.zero_add, List.getElem?_map] using gixNF (f := iC) hv10
              replace b31 := grdS b31
              obtain ⟨g12, b31⟩ := b31
              replace g12 : (decide (v10 < 0)) = true → (0 : Int) ≤ ((k30 : Nat) : Int) ∧ ((k30 : Nat) : Int) < (((s31.map iC).length : Nat) : Int) := by simpa only [se_len, se_ch, List.length_map] using g12
              replace b31 := bindS b31
              obtain ⟨v13, hv13, b31⟩ := b31
              have i14 : nth (s31.map iC) (0 + ((((k30 : Nat) : Int) : Int).toNat)) = some [(I v13)] := by simpa only [se_map, se_len, se_ch, List.length_map, nth_eq, Nat.zero_add, List.getElem?_map] using gixNF (f := iC) hv13
              replace b31 := bindS b31
              obtain ⟨y15, hy15, b31⟩ := b31
              have c16 := fun (hg : (bif (decide (v10 < 0)) then (decide (v13 = (IntKind.i64.wrap (s29.1 - 1)))) else false) = true) => c_ref17_Next a0 a1 ((k30 : Nat) : Int) ((k31 : Nat) : Int) _ (gdS hg hy15)
              repeat' first | with_reducible rfl | with_reducible exact True.intro | with_reducible assumption | refine parkI ?_ | (refine ⟨_, c16, ?_⟩; conv => whnf) | exact g9 | exact g12 | (rw [i11]; conv => whnf) | (rw [i14]; conv => whnf) | exact (congrArg Bool.not h) | exact fun _ => True.intro | (refine And.intro ?_ ?_ <;> conv => whnf) | (intro h; (conv => whnf) <;> first | with_reducible rfl | assumption | exact h | exact (congrArg Bool.not h) | (refine ⟨h, True.intro⟩) | (refine ⟨congrArg Bool.not h, True.intro⟩) | (refine ⟨by assumption, True.intro⟩)) | (intro h; exact (Bool.false_ne_true (h.symm.trans (by assumption))).elim) | (intros; simp_all; done) | (refine gand ?_ h; assumption) | fail
              refine parkE (fun hc => ?_) (fun hc => ?_)
              · replace b31 := condT hc b31
                conv => whnf
                replace b31 := grdS b31
                obtain ⟨g17, b31⟩ := b31
                replace g17 : (0 : Int) ≤ ((k31 : Nat) : Int) ∧ ((k31 : Nat) : Int) < (((s31.map iC).length : Nat) : Int) := by simpa only [se_len, se_ch, List.length_map] using g17
                repeat' first | with_reducible rfl | with_reducible exact True.intro | with_reducible assumption | refine parkI ?_ | exact g17 | (rw [i11]; conv => whnf) | (refine And.intro ?_ ?_ <;> conv => whnf) | fail
                have e := Option.some.inj b31
                refine LoopW.norm [(1, (LV.ro 1 (a1.map (roC 1 bC)))), (3, (LV.ptr 0 0 0)), (7, (LV.sl 1 0 ((s31.set (((k31 : Nat) : Int) : Int).toNat s29.1).map iC).length)), (9, (I s29.1)), (10, (I ((k30 : Nat) : Int))), (32, (I (((s29.2.map iC).length : Nat) : Int))), (33, (I ((k30 : Nat) : Int))), (37, (I (((s30.map iC).length : Nat) : Int))), (38, (I ((k31 + 1 : Nat) : Int)))] 2 [(0, (.row 47 3 [[(I a0.Segs), (LV.ro 2 (a0.Plans.map PlanT.cells)), (LV.ro 2 (a0.Hosts.map HostT.cells))]])), (1, (.row 3 1 ((s31.set (((k31 : Nat) : Int) : Int).toNat s29.1).map iC)))] ⟨rfl, rfl, (by exact congrArg (LV.sl 1 0) (by first | (simp only [se_map, se_byL, se_len, se_ch, List.length_map]; done) | ((try simp only [se_map, se_byL, se_len, se_ch, List.length_map]); (try simp only [se_len, se_ch, List.length_map] at *); omega) : (s31.map iC).length = ((s31.set (((k31 : Nat) : Int) : Int).toNat s29.1).map iC).length)), rfl, rfl, rfl, rfl, rfl, (congrArg (LV.int .i64) (w64_nat _ (by omega))), trivial⟩ ⟨⟨rfl, rfl, (by repeat' first | exact True.intro | exact rfl | exact NLs_bels (by assumption) | refine ⟨?_, ?_⟩)⟩, ⟨⟨(congrArg (fun q => some (Blk.row 3 1 q)) (by simp only [se_map, se_byL, se_len, se_ch, List.length_map] : ((setN (s31.map iC) (0 + ((((k31 : Nat) : Int) : Int).toNat)) [(I s29.1)]) : List (List LV)) = ((s31.set (((k31 : Nat) : Int) : Int).toNat s29.1).map iC))), rfl, NLss_bel (NLss_map' _)⟩, trivial⟩⟩ (by repeat' first | exact True.intro | exact rfl | exact NLs_bels (by assumption) | refine ⟨?_, ?_⟩) rfl (K31 _ e.symm)
              · replace b31 := condF hc b31
                conv => whnf
                repeat' first | with_reducible rfl | with_reducible exact True.intro | with_reducible assumption | refine parkI ?_ | (refine And.intro ?_ ?_ <;> conv => whnf) | fail
                have e := Option.some.inj b31
                refine LoopW.norm [(1, (LV.ro 1 (a1.map (roC 1 bC)))), (3, (LV.ptr 0 0 0)), (7, (LV.sl 1 0 (s31.map iC).length)), (9, (I s29.1)), (10, (I ((k30 : Nat) : Int))), (32, (I (((s29.2.map iC).length : Nat) : Int))), (33, (I ((k30 : Nat) : Int))), (37, (I (((s30.map iC).length : Nat) : Int))), (38, (I ((k31 + 1 : Nat) : Int)))] 2 [(0, (.row 47 3 [[(I a0.Segs), (LV.ro 2 (a0.Plans.map PlanT.cells)), (LV.ro 2 (a0.Hosts.map HostT.cells))]])), (1, (.row 3 1 (s31.map iC)))] ⟨rfl, rfl, rfl, rfl, rfl, rfl, rfl, rfl, (congrArg (LV.int .i64) (w64_nat _ (by omega))), trivial⟩ ⟨⟨rfl, rfl, (by repeat' first | exact True.intro | exact rfl | exact NLs_bels (by assumption) | refine ⟨?_, ?_⟩)⟩, ⟨⟨rfl, rfl, NLss_bel (NLss_map' _)⟩, trivial⟩⟩ (by repeat' first | exact True.intro | exact rfl | exact NLs_bels (by assumption) | refine ⟨?_, ?_⟩) rfl (K31 _ e.symm)
            · exact (Bool.false_ne_true (hc.symm.trans hd)).elim
        · exact (Bool.false_ne_true (hc.symm.trans hd)).elim
    · replace b29 := condF hc b29
      conv => whnf
      have e := Option.some.inj b29
      replace e := hbrk29 _ e.symm
      rw [e] at r29
      dsimp only [aftM] at r29
      have e := Option.some.inj r29
      subst e
      repeat' first | with_reducible rfl | with_reducible exact True.intro | with_reducible assumption | exact Or.inr ⟨_, rfl, congrArg (fun q => some (Blk.row 3 1 q)) rfl⟩ | exact (congrArg Bool.not h) | exact fun _ => True.intro | exact (rfl : (_ : Nat) = _) | exact (rfl : (_ : LV) = _) | exact NLss_map' _ | refine NLss_app ?_ ?_ | refine NLss_set ?_ ?_ | (refine And.intro ?_ ?_ <;> conv => whnf) | (intro h; (conv => whnf) <;> first | with_reducible rfl | assumption | exact h | exact (congrArg Bool.not h) | (refine ⟨h, True.intro⟩) | (refine ⟨congrArg Bool.not h, True.intro⟩) | (refine ⟨by assumption, True.intro⟩)) | (intro h; exact (Bool.false_ne_true (h.symm.trans (by assumption))).elim) | (intros; simp_all; done) | (refine gand ?_ h; assumption) | (simp only [se_map, se_byL]; exact rfl) | (simp only [se_map, se_byL, se_len, se_ch, List.length_map]; done) | fail

theorem c_ref17_Steps (a0 : LanT) (a1 : (List (List Bool))) (a2 : Int) (r : (List Int)) (h : ref17_Steps a0 a1 a2 = some r) : CallP Try.prog 111 [(LV.agg [(I a0.Segs), (LV.ro 2 (a0.Plans.map PlanT.cells)), (LV.ro 2 (a0.Hosts.map HostT.cells))]), (LV.ro 1 (a1.map (roC 1 bC))), (I a2)] (LV.ro 1 (r.map iC)) := by
  exact CallF.toP (cf_ref17_Steps a0 a1 a2 r h) (by repeat' first | exact True.intro | assumption | refine ⟨?_, ?_⟩) (NLss_map' _)

def ref17_Reach_b32 (y30 : (List Int)) (k32 : Nat) (s32 : (List Int)) : Option (Step (List Int) (List Int)) :=
  grd ((0 : Int) ≤ ((k32 : Nat) : Int) ∧ ((k32 : Nat) : Int) < ((y30.length : Nat) : Int)) <|
  (gixN y30 (((k32 : Nat) : Int) : Int).toNat).bind fun v33 =>
  (bif (decide (0 ≤ v33)) then
    grd (fits ((s32 ++ ([((k32 : Nat) : Int)] : (List Int))) : List Int).length 8) <|
    some (.nxt (s32 ++ ([((k32 : Nat) : Int)] : (List Int))))
  else
    some (.nxt s32))

def ref17_Reach (a0 : LanT) (a1 : (List (List Bool))) (a2 : Int) : Option (List Int) :=
  (ref17_Steps a0 a1 a2).bind fun y30 =>
  aft (rangeN (ref17_Reach_b32 y30) ((y30.length : Nat) : Int) ([] : (List Int))) fun s32 =>
  some s32

theorem cf_ref17_Reach (a0 : LanT) (a1 : (List (List Bool))) (a2 : Int) (r : (List Int)) (h : ref17_Reach a0 a1 a2 = some r) : CallF Try.prog 112 [(LV.agg [(I a0.Segs), (LV.ro 2 (a0.Plans.map PlanT.cells)), (LV.ro 2 (a0.Hosts.map HostT.cells))]), (LV.ro 1 (a1.map (roC 1 bC))), (I a2)] 3 1 (r.map iC) := by
  unfold ref17_Reach at h
  refine CallF.of (NLss_map' _) (CallW.intro TT_ok Try.func112 rfl rfl [0, 1, 2, 3, 6, 7, 8, 9, 14, 15, 16, 17, 22] rfl ?_)
  conv => whnf
  replace h := bindS h
  obtain ⟨y30, hy30, h⟩ := h
  have c31 := cf_ref17_Steps a0 a1 a2 _ hy30
  repeat' first | with_reducible rfl | with_reducible exact True.intro | with_reducible assumption | refine parkI ?_ | (refine CallW.done (CallF.at c31 (by repeat' first | exact True.intro | assumption | refine ⟨?_, ?_⟩) (NLss_map' _)) ?_; conv => whnf) | (refine ⟨_, _, CallF.at c31 (by repeat' first | exact True.intro | assumption | refine ⟨?_, ?_⟩) (NLss_map' _), ?_⟩; conv => whnf) | (refine And.intro ?_ ?_ <;> conv => whnf) | fail
  replace h := aftS h
  obtain ⟨O32, hO32, r32⟩ := h
  refine LoopW.norm [(7, (LV.sl 1 0 (([] : (List Int)).map iC).length)), (14, (LV.sl 2 0 (y30.map iC).length)), (15, (I (((y30.map iC).length : Nat) : Int))), (16, (I ((0 : Nat) : Int)))] 3 [(1, (.row 3 1 (([] : (List Int)).map iC))), (2, (.row 3 1 (y30.map iC)))] ⟨(by exact congrArg (LV.sl 1 0) (by first | (simp only [se_map, se_byL, se_len, se_ch, List.length_map]; done) | ((try simp only [se_map, se_byL, se_len, se_ch, List.length_map]); (try simp only [se_len, se_ch, List.length_map] at *); omega) : 0 = (([] : (List Int)).map iC).length)), rfl, rfl, rfl, trivial⟩ ⟨⟨(congrArg (fun q => some (Blk.row 3 1 q)) (by simp only [se_map, se_byL, se_len, se_ch, List.length_map] : (([] : List (List LV)) : List (List LV)) = (([] : (List Int)).map iC))), rfl, NLss_bel (NLss_map' _)⟩, ⟨⟨rfl, rfl, NLss_bel (NLss_map' _)⟩, trivial⟩⟩ (by repeat' first | exact True.intro | exact rfl | exact NLs_bels (by assumption) | refine ⟨?_, ?_⟩) rfl ?_
  refine LoopW.forN (fun k32 s32 => [(7, (LV.sl 1 0 (s32.map iC).length)), (14, (LV.sl 2 0 (y30.map iC).length)), (15, (I (((y30.map iC).length : Nat) : Int))), (16, (I ((k32 : Nat) : Int)))]) (fun s32 => ⟨3, [(1, (.row 3 1 (s32.map iC))), (2, (.row 3 1 (y30.map iC)))]⟩) hO32 (fun hl32 s32 hs32 => ?_) (fun hl32 k32 s32 o32 hk32 b32 K32 hret32 hbrk32 => ?_)
  · rw [hs32] at r32
    dsimp only [aftM] at r32
    have hd : decide ((((((y30.length : Nat) : Int)).toNat : Nat) : Int) < (((y30.map iC).length : Nat) : Int)) = false := by rw [decide_eq_false_iff_not]; (try simp only [se_len, se_ch, List.length_map]); omega
    refine LoopW.round TT_ok [0, 1, 2, 3, 6, 7, 8, 9, 14, 15, 16, 17, 22] ?_
    conv => whnf
    repeat' first | with_reducible rfl | with_reducible exact True.intro | with_reducible assumption | refine parkI ?_ | (refine And.intro ?_ ?_ <;> conv => whnf) | fail
    refine parkE (fun hc => ?_) (fun hc => ?_)
    · exact (Bool.false_ne_true (hd.symm.trans hc)).elim
    · clear hd
      conv => whnf
      have e := Option.some.inj r32
      subst e
      repeat' first | with_reducible rfl | with_reducible exact True.intro | with_reducible assumption | exact Or.inr ⟨_, rfl, congrArg (fun q => some (Blk.row 3 1 q)) rfl⟩ | exact (congrArg Bool.not h) | exact fun _ => True.intro | exact (rfl : (_ : Nat) = _) | exact (rfl : (_ : LV) = _) | exact NLss_map' _ | refine NLss_app ?_ ?_ | refine NLss_set ?_ ?_ | (refine And.intro ?_ ?_ <;> conv => whnf) | (intro h; (conv => whnf) <;> first | with_reducible rfl | assumption | exact h | exact (congrArg Bool.not h) | (refine ⟨h, True.intro⟩) | (refine ⟨congrArg Bool.not h, True.intro⟩) | (refine ⟨by assumption, True.intro⟩)) | (intro h; exact (Bool.false_ne_true (h.symm.trans (by assumption))).elim) | (intros; simp_all; done) | (refine gand ?_ h; assumption) | (simp only [se_map, se_byL]; exact rfl) | (simp only [se_map, se_byL, se_len, se_ch, List.length_map]; done) | fail
  · unfold ref17_Reach_b32 at b32
    have hd : decide (((k32 : Nat) : Int) < (((y30.map iC).length : Nat) : Int)) = true := by rw [decide_eq_true_eq]; (try simp only [se_len, se_ch, List.length_map] at hk32); (try simp only [se_len, se_ch, List.length_map]); omega
    refine LoopW.round TT_ok [0, 1, 2, 3, 6, 7, 8, 9, 14, 15, 16, 17, 22] ?_
    conv => whnf
    repeat' first | with_reducible rfl | with_reducible exact True.intro | with_reducible assumption | refine parkI ?_ | (refine And.intro ?_ ?_ <;> conv => whnf) | fail
    refine parkE (fun hc => ?_) (fun hc => ?_)
    · clear hd
      conv => whnf
      replace b32 := grdS b32
      obtain ⟨g32, b32⟩ := b32
      replace g32 : (0 : Int) ≤ ((k32 : Nat) : Int) ∧ ((k32 : Nat) : Int) < (((y30.map iC).length : Nat) : Int) := by simpa only [se_len, se_ch, List.length_map] using g32
      replace b32 := bindS b32
      obtain ⟨v33, hv33, b32⟩ := b32
      have i34 : nth (y30.map iC) (0 + ((((k32 : Nat) : Int) : Int).toNat)) = some [(I v33)] := by simpa only [se_map, se_len, se_ch, List.length_map, nth_eq, Nat.zero_add, List.getElem?_map] using gixNF (f := iC) hv33
      repeat' first | with_reducible rfl | with_reducible exact True.intro | with_reducible assumption | refine parkI ?_ | exact g32 | (rw [i34]; conv => whnf) | (refine And.intro ?_ ?_ <;> conv => whnf) | fail
      refine parkE (fun hc => ?_) (fun hc => ?_)
      · replace b32 := condT hc b32
        conv => whnf
        replace b32 := grdS b32
        obtain ⟨g35, b32⟩ := b32
        replace g35 : fits (((s32.map iC) ++ [[(I ((k32 : Nat) : Int))]])).length 8 := by simpa only [se_len, se_ch, List.length_map] using g35
        repeat' first | with_reducible rfl | with_reducible exact True.intro | with_reducible assumption | refine parkI ?_ | exact g35 | exact (rfl : (_ : Nat) = _) | exact NLss_map' _ | refine NLss_app ?_ ?_ | refine NLss_set ?_ ?_ | (refine And.intro ?_ ?_ <;> conv => whnf) | (simp only [se_map, se_byL]; exact rfl) | (simp only [se_map, se_byL, se_len, se_ch, List.length_map]; done) | fail
        have e := Option.some.inj b32
        refine LoopW.ren [(4, 1), (2, 2)] [(7, (LV.sl 1 0 ((s32 ++ ([((k32 : Nat) : Int)] : (List Int))).map iC).length)), (14, (LV.sl 2 0 (y30.map iC).length)), (15, (I (((y30.map iC).length : Nat) : Int))), (16, (I ((k32 + 1 : Nat) : Int)))] 3 [(1, (.row 3 1 ((s32 ++ ([((k32 : Nat) : Int)] : (List Int))).map iC))), (2, (.row 3 1 (y30.map iC)))] rfl ⟨(by exact congrArg (LV.sl 1 0) (by first | (simp only [se_map, se_byL, se_len, se_ch, List.length_map]; done) | ((try simp only [se_map, se_byL, se_len, se_ch, List.length_map]); (try simp only [se_len, se_ch, List.length_map] at *); omega) : (((s32.map iC) ++ [[(I ((k32 : Nat) : Int))]])).length = ((s32 ++ ([((k32 : Nat) : Int)] : (List Int))).map iC).length)), rfl, rfl, (congrArg (LV.int .i64) (w64_nat _ (by omega))), trivial⟩ ⟨⟨rfl, rfl, .inl ⟨(by simp only [se_map, se_byL, se_len, se_ch, List.length_map] : (((s32.map iC) ++ [[(I ((k32 : Nat) : Int))]]) : List (List LV)) = ((s32 ++ ([((k32 : Nat) : Int)] : (List Int))).map iC)), (by repeat' first | exact NLss_map' _ | refine NLss_app ?_ ?_ | refine NLss_set ?_ ?_ | exact True.intro | refine ⟨?_, ?_⟩)⟩⟩, rfl, rfl, ⟨⟨rfl, rfl, .inl ⟨rfl, (by repeat' first | exact NLss_map' _ | refine NLss_app ?_ ?_ | refine NLss_set ?_ ?_ | exact True.intro | refine ⟨?_, ?_⟩)⟩⟩, rfl, rfl, trivial⟩⟩ rfl (K32 _ e.symm)
      · replace b32 := condF hc b32
        conv => whnf
        repeat' first | with_reducible rfl | with_reducible exact True.intro | with_reducible assumption | refine parkI ?_ | (refine And.intro ?_ ?_ <;> conv => whnf) | fail
        have e := Option.some.inj b32
        refine LoopW.norm [(7, (LV.sl 1 0 (s32.map iC).length)), (14, (LV.sl 2 0 (y30.map iC).length)), (15, (I (((y30.map iC).length : Nat) : Int))), (16, (I ((k32 + 1 : Nat) : Int)))] 3 [(1, (.row 3 1 (s32.map iC))), (2, (.row 3 1 (y30.map iC)))] ⟨rfl, rfl, rfl, (congrArg (LV.int .i64) (w64_nat _ (by omega))), trivial⟩ ⟨⟨rfl, rfl, NLss_bel (NLss_map' _)⟩, ⟨⟨rfl, rfl, NLss_bel (NLss_map' _)⟩, trivial⟩⟩ (by repeat' first | exact True.intro | exact rfl | exact NLs_bels (by assumption) | refine ⟨?_, ?_⟩) rfl (K32 _ e.symm)
    · exact (Bool.false_ne_true (hc.symm.trans hd)).elim

theorem c_ref17_Reach (a0 : LanT) (a1 : (List (List Bool))) (a2 : Int) (r : (List Int)) (h : ref17_Reach a0 a1 a2 = some r) : CallP Try.prog 112 [(LV.agg [(I a0.Segs), (LV.ro 2 (a0.Plans.map PlanT.cells)), (LV.ro 2 (a0.Hosts.map HostT.cells))]), (LV.ro 1 (a1.map (roC 1 bC))), (I a2)] (LV.ro 1 (r.map iC)) := by
  exact CallF.toP (cf_ref17_Reach a0 a1 a2 r h) (by repeat' first | exact True.intro | assumption | refine ⟨?_, ?_⟩) (NLss_map' _)

def ref17_Copies_b34 (a1 : (List (List Bool))) (y36 : (List Int)) (k33 : Nat) (k34 : Nat) (x34 : LinkT) (s34 : (Int × Bool)) : Option (Step (Step Int Int) (Int × Bool)) :=
  (gd x34.Up (gix a1 ((k33 : Nat) : Int))).bind fun v38 =>
  (gd x34.Up (gix v38 ((k34 : Nat) : Int))).bind fun v40 =>
  (bif (bif x34.Up then v40 else false) then
    grd (((!s34.2) = true → (0 : Int) ≤ x34.Seg ∧ x34.Seg < ((y36.length : Nat) : Int))) <|
    (gixN y36 (x34.Seg : Int).toNat).bind fun v43 =>
    some (.nxt ((IntKind.i64.wrap (s34.1 + 1)), (bif s34.2 then true else (decide (0 ≤ v43)))))
  else
    some (.nxt (s34.1, s34.2)))

def ref17_Copies_b33 (a1 : (List (List Bool))) (y36 : (List Int)) (k33 : Nat) (x33 : PlanT) (s33 : Int) : Option (Step Int Int) :=
  aft (rangeL (ref17_Copies_b34 a1 y36 k33) x33.Ports (0, false)) fun s34 =>
  (bif s34.2 then
    some (.nxt (IntKind.i64.wrap ((IntKind.i64.wrap (s33 + s34.1)) - 1)))
  else
    some (.nxt s33))

def ref17_Copies (a0 : LanT) (a1 : (List (List Bool))) (a2 : Int) : Option Int :=
  (ref17_Steps a0 a1 a2).bind fun y36 =>
  aft (rangeL (ref17_Copies_b33 a1 y36) a0.Plans 0) fun s33 =>
  some s33

theorem c_ref17_Copies (a0 : LanT) (a1 : (List (List Bool))) (a2 : Int) (r : Int) (h : ref17_Copies a0 a1 a2 = some r) : CallP Try.prog 113 [(LV.agg [(I a0.Segs), (LV.ro 2 (a0.Plans.map PlanT.cells)), (LV.ro 2 (a0.Hosts.map HostT.cells))]), (LV.ro 1 (a1.map (roC 1 bC))), (I a2)] (I r) := by
  unfold ref17_Copies at h
  refine .intro (by repeat' first | exact True.intro | assumption | refine ⟨?_, ?_⟩) (.intro TT_ok Try.func113 rfl rfl [0, 1, 2, 3, 6, 7, 8, 9, 10, 11, 12, 13, 14, 20, 21, 22, 23, 28, 29, 30, 31, 45, 58] rfl ?_)
  conv => whnf
  replace h := bindS h
  obtain ⟨y36, hy36, h⟩ := h
  have c37 := cf_ref17_Steps a0 a1 a2 _ hy36
  repeat' first | with_reducible rfl | with_reducible exact True.intro | with_reducible assumption | refine parkI ?_ | (refine CallW.done (CallF.at c37 (by repeat' first | exact True.intro | assumption | refine ⟨?_, ?_⟩) (NLss_map' _)) ?_; conv => whnf) | (refine ⟨_, _, CallF.at c37 (by repeat' first | exact True.intro | assumption | refine ⟨?_, ?_⟩) (NLss_map' _), ?_⟩; conv => whnf) | (refine And.intro ?_ ?_ <;> conv => whnf) | fail
  replace h := aftS h
  obtain ⟨O33, hO33, r33⟩ := h
  refine LoopW.norm [(1, (LV.ro 1 (a1.map (roC 1 bC)))), (7, (LV.sl 1 0 (y36.map iC).length)), (8, (I 0)), (20, (LV.ro 2 (a0.Plans.map PlanT.cells))), (21, (I (((a0.Plans.map PlanT.cells).length : Nat) : Int))), (22, (I ((0 : Nat) : Int)))] 2 [(1, (.row 3 1 (y36.map iC)))] ⟨rfl, rfl, rfl, rfl, rfl, rfl, trivial⟩ ⟨⟨rfl, rfl, NLss_bel (NLss_map' _)⟩, trivial⟩ (by repeat' first | exact True.intro | exact rfl | exact NLs_bels (by assumption) | refine ⟨?_, ?_⟩) rfl ?_
  refine LoopW.forR (fun k33 s33 => [(1, (LV.ro 1 (a1.map (roC 1 bC)))), (7, (LV.sl 1 0 (y36.map iC).length)), (8, (I s33)), (20, (LV.ro 2 (a0.Plans.map PlanT.cells))), (21, (I (((a0.Plans.map PlanT.cells).length : Nat) : Int))), (22, (I ((k33 : Nat) : Int)))]) (fun s33 => ⟨2, [(1, (.row 3 1 (y36.map iC)))]⟩) hO33 (fun hl33 s33 hs33 => ?_) (fun hl33 k33 x33 s33 o33 hk33 hx33 b33 K33 hret33 hbrk33 => ?_)
  · rw [hs33] at r33
    dsimp only [aftM] at r33
    have hd : decide (((a0.Plans.length : Nat) : Int) < (((a0.Plans.map PlanT.cells).length : Nat) : Int)) = false := by rw [decide_eq_false_iff_not]; (try simp only [se_len, se_ch, List.length_map]); omega
    refine LoopW.round TT_ok [0, 1, 2, 3, 6, 7, 8, 9, 10, 11, 12, 13, 14, 20, 21, 22, 23, 28, 29, 30, 31, 45, 58] ?_
    conv => whnf
    repeat' first | with_reducible rfl | with_reducible exact True.intro | with_reducible assumption | refine parkI ?_ | (refine And.intro ?_ ?_ <;> conv => whnf) | fail
    refine parkE (fun hc => ?_) (fun hc => ?_)
    · exact (Bool.false_ne_true (hd.symm.trans hc)).elim
    · clear hd
      conv => whnf
      have e := Option.some.inj r33
      subst e
      repeat' first | with_reducible rfl | with_reducible exact True.intro | with_reducible assumption | exact (congrArg Bool.not h) | exact fun _ => True.intro | exact (rfl : (_ : Nat) = _) | exact (rfl : (_ : LV) = _) | exact NLss_map' _ | refine NLss_app ?_ ?_ | refine NLss_set ?_ ?_ | (refine And.intro ?_ ?_ <;> conv => whnf) | (intro h; (conv => whnf) <;> first | with_reducible rfl | assumption | exact h | exact (congrArg Bool.not h) | (refine ⟨h, True.intro⟩) | (refine ⟨congrArg Bool.not h, True.intro⟩) | (refine ⟨by assumption, True.intro⟩)) | (intro h; exact (Bool.false_ne_true (h.symm.trans (by assumption))).elim) | (intros; simp_all; done) | (refine gand ?_ h; assumption) | (simp only [se_map, se_byL]; exact rfl) | (simp only [se_map, se_byL, se_len, se_ch, List.length_map]; done) | fail
  · unfold ref17_Copies_b33 at b33
    have hd : decide (((k33 : Nat) : Int) < (((a0.Plans.map PlanT.cells).length : Nat) : Int)) = true := by rw [decide_eq_true_eq]; (try simp only [se_len, se_ch, List.length_map] at hk33); (try simp only [se_len, se_ch, List.length_map]); omega
    refine LoopW.round TT_ok [0, 1, 2, 3, 6, 7, 8, 9, 10, 11, 12, 13, 14, 20, 21, 22, 23, 28, 29, 30, 31, 45, 58] ?_
    conv => whnf
    repeat' first | with_reducible rfl | with_reducible exact True.intro | with_reducible assumption | refine parkI ?_ | (refine And.intro ?_ ?_ <;> conv => whnf) | fail
    refine parkE (fun hc => ?_) (fun hc => ?_)
    · clear hd
      conv => whnf
      repeat' first | with_reducible rfl | with_reducible exact True.intro | with_reducible assumption | refine parkI ?_ | (refine ⟨_, (kixF (f := PlanT.cells) hx33), ?_⟩; conv => whnf) | (refine And.intro ?_ ?_ <;> conv => whnf) | fail
      replace b33 := aftS b33
      obtain ⟨O34, hO34, r34⟩ := b33
      refine LoopW.norm [(1, (LV.ro 1 (a1.map (roC 1 bC)))), (7, (LV.sl 1 0 (y36.map iC).length)), (8, (I s33)), (9, (I ((k33 : Nat) : Int))), (11, (I (0, false).1)), (12, (LV.bool (0, false).2)), (20, (LV.ro 2 (a0.Plans.map PlanT.cells))), (21, (I (((a0.Plans.map PlanT.cells).length : Nat) : Int))), (22, (I ((k33 : Nat) : Int))), (28, (LV.ro 3 (x33.Ports.map LinkT.cells))), (29, (I (((x33.Ports.map LinkT.cells).length : Nat) : Int))), (30, (I ((0 : Nat) : Int)))] 2 [(1, (.row 3 1 (y36.map iC)))] ⟨rfl, rfl, rfl, rfl, (by simp only [se_map, se_byL, se_len, se_ch, List.length_map] : ((I 0) : LV) = (I (0, false).1)), (by simp only [se_map, se_byL, se_len, se_ch, List.length_map] : ((LV.bool false) : LV) = (LV.bool (0, false).2)), rfl, rfl, rfl, rfl, rfl, rfl, trivial⟩ ⟨⟨rfl, rfl, NLss_bel (NLss_map' _)⟩, trivial⟩ (by repeat' first | exact True.intro | exact rfl | exact NLs_bels (by assumption) | refine ⟨?_, ?_⟩) rfl ?_
      refine LoopW.forR (fun k34 s34 => [(1, (LV.ro 1 (a1.map (roC 1 bC)))), (7, (LV.sl 1 0 (y36.map iC).length)), (8, (I s33)), (9, (I ((k33 : Nat) : Int))), (11, (I s34.1)), (12, (LV.bool s34.2)), (20, (LV.ro 2 (a0.Plans.map PlanT.cells))), (21, (I (((a0.Plans.map PlanT.cells).length : Nat) : Int))), (22, (I ((k33 : Nat) : Int))), (28, (LV.ro 3 (x33.Ports.map LinkT.cells))), (29, (I (((x33.Ports.map LinkT.cells).length : Nat) : Int))), (30, (I ((k34 : Nat) : Int)))]) (fun s34 => ⟨2, [(1, (.row 3 1 (y36.map iC)))]⟩) hO34 (fun hl34 s34 hs34 => ?_) (fun hl34 k34 x34 s34 o34 hk34 hx34 b34 K34 hret34 hbrk34 => ?_)
      · rw [hs34] at r34
        dsimp only [aftM] at r34
        have hd : decide (((x33.Ports.length : Nat) : Int) < (((x33.Ports.map LinkT.cells).length : Nat) : Int)) = false := by rw [decide_eq_false_iff_not]; (try simp only [se_len, se_ch, List.length_map]); omega
        refine LoopW.round TT_ok [0, 1, 2, 3, 6, 7, 8, 9, 10, 11, 12, 13, 14, 20, 21, 22, 23, 28, 29, 30, 31, 45, 58] ?_
        conv => whnf
        repeat' first | with_reducible rfl | with_reducible exact True.intro | with_reducible assumption | refine parkI ?_ | (refine And.intro ?_ ?_ <;> conv => whnf) | fail
        refine parkE (fun hc => ?_) (fun hc => ?_)
        · exact (Bool.false_ne_true (hd.symm.trans hc)).elim
        · clear hd
          conv => whnf
          repeat' first | with_reducible rfl | with_reducible exact True.intro | with_reducible assumption | refine parkI ?_ | (refine And.intro ?_ ?_ <;> conv => whnf) | fail
          refine parkE (fun hc => ?_) (fun hc => ?_)
          · replace r34 := condT hc r34
            conv => whnf
            repeat' first | with_reducible rfl | with_reducible exact True.intro | with_reducible assumption | refine parkI ?_ | (refine And.intro ?_ ?_ <;> conv => whnf) | fail
            have e := Option.some.inj r34
            refine LoopW.norm [(1, (LV.ro 1 (a1.map (roC 1 bC)))), (7, (LV.sl 1 0 (y36.map iC).length)), (8, (I (IntKind.i64.wrap ((IntKind.i64.wrap (s33 + s34.1)) - 1)))), (20, (LV.ro 2 (a0.Plans.map PlanT.cells))), (21, (I (((a0.Plans.map PlanT.cells).length : Nat) : Int))), (22, (I ((k33 + 1 : Nat) : Int)))] 2 [(1, (.row 3 1 (y36.map iC)))] ⟨rfl, rfl, rfl, rfl, rfl, (congrArg (LV.int .i64) (w64_nat _ (by omega))), trivial⟩ ⟨⟨rfl, rfl, NLss_bel (NLss_map' _)⟩, trivial⟩ (by repeat' first | exact True.intro | exact rfl | exact NLs_bels (by assumption) | refine ⟨?_, ?_⟩) rfl (K33 _ e.symm)
          · replace r34 := condF hc r34
            conv => whnf
            repeat' first | with_reducible rfl | with_reducible exact True.intro | with_reducible assumption | refine parkI ?_ | (refine And.intro ?_ ?_ <;> conv => whnf) | fail
            have e := Option.some.inj r34
            refine LoopW.norm [(1, (LV.ro 1 (a1.map (roC 1 bC)))), (7, (LV.sl 1 0 (y36.map iC).length)), (8, (I s33)), (20, (LV.ro 2 (a0.Plans.map PlanT.cells))), (21, (I (((a0.Plans.map PlanT.cells).length : Nat) : Int))), (22, (I ((k33 + 1 : Nat) : Int)))] 2 [(1, (.row 3 1 (y36.map iC)))] ⟨rfl, rfl, rfl, rfl, rfl, (congrArg (LV.int .i64) (w64_nat _ (by omega))), trivial⟩ ⟨⟨rfl, rfl, NLss_bel (NLss_map' _)⟩, trivial⟩ (by repeat' first | exact True.intro | exact rfl | exact NLs_bels (by assumption) | refine ⟨?_, ?_⟩) rfl (K33 _ e.symm)
      · unfold ref17_Copies_b34 at b34
        have hd : decide (((k34 : Nat) : Int) < (((x33.Ports.map LinkT.cells).length : Nat) : Int)) = true := by rw [decide_eq_true_eq]; (try simp only [se_len, se_ch, List.length_map] at hk34); (try simp only [se_len, se_ch, List.length_map]); omega
        refine LoopW.round TT_ok [0, 1, 2, 3, 6, 7, 8, 9, 10, 11, 12, 13, 14, 20, 21, 22, 23, 28, 29, 30, 31, 45, 58] ?_
        conv => whnf
        repeat' first | with_reducible rfl | with_reducible exact True.intro | with_reducible assumption | refine parkI ?_ | (refine And.intro ?_ ?_ <;> conv => whnf) | fail
        refine parkE (fun hc => ?_) (fun hc => ?_)
        · clear hd
          conv => whnf
          replace b34 := bindS b34
          obtain ⟨v38, hv38, b34⟩ := b34
          have i39 := fun hg => gixF (f := (roC 1 bC)) (gdS hg hv38)
          replace b34 := bindS b34
          obtain ⟨v40, hv40, b34⟩ := b34
          have i41 := fun hg => gixF (f := bC) (gdS hg hv40)
          repeat' first | with_reducible rfl | with_reducible exact True.intro | with_reducible assumption | refine parkI ?_ | (refine ⟨_, (kixF (f := LinkT.cells) hx34), ?_⟩; conv => whnf) | (refine ⟨_, i39, ?_⟩; conv => whnf) | (refine ⟨_, i41, ?_⟩; conv => whnf) | exact (congrArg Bool.not h) | exact fun _ => True.intro | (refine And.intro ?_ ?_ <;> conv => whnf) | (intro h; (conv => whnf) <;> first | with_reducible rfl | assumption | exact h | exact (congrArg Bool.not h) | (refine ⟨h, True.intro⟩) | (refine ⟨congrArg Bool.not h, True.intro⟩) | (refine ⟨by assumption, True.intro⟩)) | (intro h; exact (Bool.false_ne_true (h.symm.trans (by assumption))).elim) | (intros; simp_all; done) | (refine gand ?_ h; assumption) | fail
          refine parkE (fun hc => ?_) (fun hc => ?_)
          · replace b34 := condT hc b34
            conv => whnf
            replace b34 := grdS b34
            obtain ⟨g42, b34⟩ := b34
            replace g42 : (!s34.2) = true → (0 : Int) ≤ x34.Seg ∧ x34.Seg < (((y36.map iC).length : Nat) : Int) := by simpa only [se_len, se_ch, List.length_map] using g42
            replace b34 := bindS b34
            obtain ⟨v43, hv43, b34⟩ := b34
            have i44 : nth (y36.map iC) (0 + ((x34.Seg : Int).toNat)) = some [(I v43)] := by simpa only [se_map, se_len, se_ch, List.length_map, nth_eq, Nat.zero_add, List.getElem?_map] using gixNF (f := iC) hv43
            repeat' first | with_reducible rfl | with_reducible exact True.intro | with_reducible assumption | refine parkI ?_ | exact g42 | (rw [i44]; conv => whnf) | exact (congrArg Bool.not h) | exact fun _ => True.intro | (refine And.intro ?_ ?_ <;> conv => whnf) | (intro h; (conv => whnf) <;> first | with_reducible rfl | assumption | exact h | exact (congrArg Bool.not h) | (refine ⟨h, True.intro⟩) | (refine ⟨congrArg Bool.not h, True.intro⟩) | (refine ⟨by assumption, True.intro⟩)) | (intro h; exact (Bool.false_ne_true (h.symm.trans (by assumption))).elim) | (intros; simp_all; done) | (refine gand ?_ h; assumption) | fail
            have e := Option.some.inj b34
            refine LoopW.norm [(1, (LV.ro 1 (a1.map (roC 1 bC)))), (7, (LV.sl 1 0 (y36.map iC).length)), (8, (I s33)), (9, (I ((k33 : Nat) : Int))), (11, (I ((IntKind.i64.wrap (s34.1 + 1)), (bif s34.2 then true else (decide (0 ≤ v43)))).1)), (12, (LV.bool ((IntKind.i64.wrap (s34.1 + 1)), (bif s34.2 then true else (decide (0 ≤ v43)))).2)), (20, (LV.ro 2 (a0.Plans.map PlanT.cells))), (21, (I (((a0.Plans.map PlanT.cells).length : Nat) : Int))), (22, (I ((k33 : Nat) : Int))), (28, (LV.ro 3 (x33.Ports.map LinkT.cells))), (29, (I (((x33.Ports.map LinkT.cells).length : Nat) : Int))), (30, (I ((k34 + 1 : Nat) : Int)))] 2 [(1, (.row 3 1 (y36.map iC)))] ⟨rfl, rfl, rfl, rfl, (by simp only [se_map, se_byL, se_len, se_ch, List.length_map] : ((I (IntKind.i64.wrap (s34.1 + 1))) : LV) = (I ((IntKind.i64.wrap (s34.1 + 1)), (bif s34.2 then true else (decide (0 ≤ v43)))).1)), (by simp only [se_map, se_byL, se_len, se_ch, List.length_map] : ((LV.bool (bif s34.2 then true else (decide (0 ≤ v43)))) : LV) = (LV.bool ((IntKind.i64.wrap (s34.1 + 1)), (bif s34.2 then true else (decide (0 ≤ v43)))).2)), rfl, rfl, rfl, rfl, rfl, (congrArg (LV.int .i64) (w64_nat _ (by omega))), trivial⟩ ⟨⟨rfl, rfl, NLss_bel (NLss_map' _)⟩, trivial⟩ (by repeat' first | exact True.intro | exact rfl | exact NLs_bels (by assumption) | refine ⟨?_, ?_⟩) rfl (K34 _ e.symm)
          · replace b34 := condF hc b34
            conv => whnf
            repeat' first | with_reducible rfl | with_reducible exact True.intro | with_reducible assumption | refine parkI ?_ | (refine And.intro ?_ ?_ <;> conv => whnf) | fail
            have e := Option.some.inj b34
            refine LoopW.norm [(1, (LV.ro 1 (a1.map (roC 1 bC)))), (7, (LV.sl 1 0 (y36.map iC).length)), (8, (I s33)), (9, (I ((k33 : Nat) : Int))), (11, (I (s34.1, s34.2).1)), (12, (LV.bool (s34.1, s34.2).2)), (20, (LV.ro 2 (a0.Plans.map PlanT.cells))), (21, (I (((a0.Plans.map PlanT.cells).length : Nat) : Int))), (22, (I ((k33 : Nat) : Int))), (28, (LV.ro 3 (x33.Ports.map LinkT.cells))), (29, (I (((x33.Ports.map LinkT.cells).length : Nat) : Int))), (30, (I ((k34 + 1 : Nat) : Int)))] 2 [(1, (.row 3 1 (y36.map iC)))] ⟨rfl, rfl, rfl, rfl, (by simp only [se_map, se_byL, se_len, se_ch, List.length_map] : ((I s34.1) : LV) = (I (s34.1, s34.2).1)), (by simp only [se_map, se_byL, se_len, se_ch, List.length_map] : ((LV.bool s34.2) : LV) = (LV.bool (s34.1, s34.2).2)), rfl, rfl, rfl, rfl, rfl, (congrArg (LV.int .i64) (w64_nat _ (by omega))), trivial⟩ ⟨⟨rfl, rfl, NLss_bel (NLss_map' _)⟩, trivial⟩ (by repeat' first | exact True.intro | exact rfl | exact NLs_bels (by assumption) | refine ⟨?_, ?_⟩) rfl (K34 _ e.symm)
        · exact (Bool.false_ne_true (hc.symm.trans hd)).elim
    · exact (Bool.false_ne_true (hc.symm.trans hd)).elim

def ref17_Path_b36 (a0 : LanT) (a1 : (List (List Bool))) (y45 : (List Int)) (k36 : Nat) (s36 : Int) : Option (Step (Step (List Int) ((List Int) × Int)) Int) :=
  grd ((0 : Int) ≤ ((k36 : Nat) : Int) ∧ ((k36 : Nat) : Int) < ((y45.length : Nat) : Int)) <|
  (gixN y45 (((k36 : Nat) : Int) : Int).toNat).bind fun v51 =>
  grd ((0 : Int) ≤ s36 ∧ s36 < ((y45.length : Nat) : Int)) <|
  (gixN y45 (s36 : Int).toNat).bind fun v54 =>
  (gd (decide (v51 = (IntKind.i64.wrap (v54 - 1)))) (ref17_Next a0 a1 ((k36 : Nat) : Int) s36)).bind fun y56 =>
  (bif (bif (decide (v51 = (IntKind.i64.wrap (v54 - 1)))) then y56 else false) then
    some (.brk ((k36 : Nat) : Int))
  else
    some (.nxt s36))

def ref17_Path_b35 (a0 : LanT) (a1 : (List (List Bool))) (y45 : (List Int)) (s35 : ((List Int) × Int)) : Option (Step (List Int) ((List Int) × Int)) :=
  grd ((0 : Int) ≤ s35.2 ∧ s35.2 < ((y45.length : Nat) : Int)) <|
  (gixN y45 (s35.2 : Int).toNat).bind fun v48 =>
  (bif (decide (0 < v48)) then
    aft (rangeN (ref17_Path_b36 a0 a1 y45) ((y45.length : Nat) : Int) s35.2) fun s36 =>
    grd (fits ((([s36] : (List Int)) ++ s35.1) : List Int).length 8) <|
    some (.nxt ((([s36] : (List Int)) ++ s35.1), s36))
  else
    some (.brk (s35.1, s35.2)))

def ref17_Path (a0 : LanT) (a1 : (List (List Bool))) (a2 : Int) (a3 : Int) : Option (List Int) :=
  (ref17_Steps a0 a1 a2).bind fun y45 =>
  aft (loopF 1000000 (ref17_Path_b35 a0 a1 y45) (([a3] : (List Int)), a3)) fun s35 =>
  some s35.1

theorem cf_ref17_Path (a0 : LanT) (a1 : (List (List Bool))) (a2 : Int) (a3 : Int) (r : (List Int)) (h : ref17_Path a0 a1 a2 a3 = some r) : CallF Try.prog 114 [(LV.agg [(I a0.Segs), (LV.ro 2 (a0.Plans.map PlanT.cells)), (LV.ro 2 (a0.Hosts.map HostT.cells))]), (LV.ro 1 (a1.map (roC 1 bC))), (I a2), (I a3)] 3 1 (r.map iC) := by
  unfold ref17_Path at h
  refine CallF.of (NLss_map' _) (CallW.intro TT_ok Try.func114 rfl rfl [0, 1, 2, 3, 4, 8, 9, 10, 11, 12, 13, 14, 26, 27, 28, 29, 30, 47] rfl ?_)
  conv => whnf
  replace h := bindS h
  obtain ⟨y45, hy45, h⟩ := h
  have c46 := cf_ref17_Steps a0 a1 a2 _ hy45
  repeat' first | with_reducible rfl | with_reducible exact True.intro | with_reducible assumption | refine parkI ?_ | (refine CallW.done (CallF.at c46 (by repeat' first | exact True.intro | assumption | refine ⟨?_, ?_⟩) (NLss_map' _)) ?_; conv => whnf) | (refine ⟨_, _, CallF.at c46 (by repeat' first | exact True.intro | assumption | refine ⟨?_, ?_⟩) (NLss_map' _), ?_⟩; conv => whnf) | (refine And.intro ?_ ?_ <;> conv => whnf) | fail
  replace h := aftS h
  obtain ⟨O35, hO35, r35⟩ := h
  refine LoopW.norm [(1, (LV.ro 1 (a1.map (roC 1 bC)))), (4, (LV.ptr 0 0 0)), (9, (LV.sl 1 0 (y45.map iC).length)), (10, (LV.sl 2 0 ((([a3] : (List Int)), a3).1.map iC).length)), (11, (I (([a3] : (List Int)), a3).2))] 3 [(0, (.row 47 3 [[(I a0.Segs), (LV.ro 2 (a0.Plans.map PlanT.cells)), (LV.ro 2 (a0.Hosts.map HostT.cells))]])), (1, (.row 3 1 (y45.map iC))), (2, (.row 3 1 ((([a3] : (List Int)), a3).1.map iC)))] ⟨rfl, rfl, rfl, (by exact congrArg (LV.sl 2 0) (by first | (simp only [se_map, se_byL, se_len, se_ch, List.length_map]; done) | ((try simp only [se_map, se_byL, se_len, se_ch, List.length_map]); (try simp only [se_len, se_ch, List.length_map] at *); omega) : 1 = ((([a3] : (List Int)), a3).1.map iC).length)), (by simp only [se_map, se_byL, se_len, se_ch, List.length_map] : ((I a3) : LV) = (I (([a3] : (List Int)), a3).2)), trivial⟩ ⟨⟨rfl, rfl, (by repeat' first | exact True.intro | exact rfl | exact NLs_bels (by assumption) | refine ⟨?_, ?_⟩)⟩, ⟨⟨rfl, rfl, NLss_bel (NLss_map' _)⟩, ⟨⟨(congrArg (fun q => some (Blk.row 3 1 q)) (by simp only [se_map, se_byL, se_len, se_ch, List.length_map] : ([[(I a3)]] : List (List LV)) = ((([a3] : (List Int)), a3).1.map iC))), rfl, NLss_bel (NLss_map' _)⟩, trivial⟩⟩⟩ (by repeat' first | exact True.intro | exact rfl | exact NLs_bels (by assumption) | refine ⟨?_, ?_⟩) rfl ?_
  refine LoopW.forF (fun s35 => [(1, (LV.ro 1 (a1.map (roC 1 bC)))), (4, (LV.ptr 0 0 0)), (9, (LV.sl 1 0 (y45.map iC).length)), (10, (LV.sl 2 0 (s35.1.map iC).length)), (11, (I s35.2))]) (fun s35 => ⟨3, [(0, (.row 47 3 [[(I a0.Segs), (LV.ro 2 (a0.Plans.map PlanT.cells)), (LV.ro 2 (a0.Hosts.map HostT.cells))]])), (1, (.row 3 1 (y45.map iC))), (2, (.row 3 1 (s35.1.map iC)))]⟩) hO35 (fun s35 o35 b35 K35 hret35 hbrk35 => ?_)
  unfold ref17_Path_b35 at b35
  refine LoopW.round TT_ok [0, 1, 2, 3, 4, 8, 9, 10, 11, 12, 13, 14, 26, 27, 28, 29, 30, 47] ?_
  conv => whnf
  replace b35 := grdS b35
  obtain ⟨g47, b35⟩ := b35
  replace g47 : (0 : Int) ≤ s35.2 ∧ s35.2 < (((y45.map iC).length : Nat) : Int) := by simpa only [se_len, se_ch, List.length_map] using g47
  replace b35 := bindS b35
  obtain ⟨v48, hv48, b35⟩ := b35
  have i49 : nth (y45.map iC) (0 + ((s35.2 : Int).toNat)) = some [(I v48)] := by simpa only [se_map, se_len, se_ch, List.length_map, nth_eq, Nat.zero_add, List.getElem?_map] using gixNF (f := iC) hv48
  repeat' first | with_reducible rfl | with_reducible exact True.intro | with_reducible assumption | refine parkI ?_ | exact g47 | (rw [i49]; conv => whnf) | (refine And.intro ?_ ?_ <;> conv => whnf) | fail
  refine parkE (fun hc => ?_) (fun hc => ?_)
  · replace b35 := condT hc b35
    conv => whnf
    repeat' first | with_reducible rfl | with_reducible exact True.intro | with_reducible assumption | refine parkI ?_ | (refine And.intro ?_ ?_ <;> conv => whnf) | fail
    replace b35 := aftS b35
    obtain ⟨O36, hO36, r36⟩ := b35
    refine LoopW.norm [(1, (LV.ro 1 (a1.map (roC 1 bC)))), (4, (LV.ptr 0 0 0)), (9, (LV.sl 1 0 (y45.map iC).length)), (10, (LV.sl 2 0 (s35.1.map iC).length)), (11, (I s35.2)), (27, (LV.sl 1 0 (y45.map iC).length)), (28, (I (((y45.map iC).length : Nat) : Int))), (29, (I ((0 : Nat) : Int)))] 3 [(0, (.row 47 3 [[(I a0.Segs), (LV.ro 2 (a0.Plans.map PlanT.cells)), (LV.ro 2 (a0.Hosts.map HostT.cells))]])), (1, (.row 3 1 (y45.map iC))), (2, (.row 3 1 (s35.1.map iC)))] ⟨rfl, rfl, rfl, rfl, rfl, rfl, rfl, rfl, trivial⟩ ⟨⟨rfl, rfl, (by repeat' first | exact True.intro | exact rfl | exact NLs_bels (by assumption) | refine ⟨?_, ?_⟩)⟩, ⟨⟨rfl, rfl, NLss_bel (NLss_map' _)⟩, ⟨⟨rfl, rfl, NLss_bel (NLss_map' _)⟩, trivial⟩⟩⟩ (by repeat' first | exact True.intro | exact rfl | exact NLs_bels (by assumption) | refine ⟨?_, ?_⟩) rfl ?_
    refine LoopW.forN (fun k36 s36 => [(1, (LV.ro 1 (a1.map (roC 1 bC)))), (4, (LV.ptr 0 0 0)), (9, (LV.sl 1 0 (y45.map iC).length)), (10, (LV.sl 2 0 (s35.1.map iC).length)), (11, (I s36)), (27, (LV.sl 1 0 (y45.map iC).length)), (28, (I (((y45.map iC).length : Nat) : Int))), (29, (I ((k36 : Nat) : Int)))]) (fun s36 => ⟨3, [(0, (.row 47 3 [[(I a0.Segs), (LV.ro 2 (a0.Plans.map PlanT.cells)), (LV.ro 2 (a0.Hosts.map HostT.cells))]])), (1, (.row 3 1 (y45.map iC))), (2, (.row 3 1 (s35.1.map iC)))]⟩) hO36 (fun hl36 s36 hs36 => ?_) (fun hl36 k36 s36 o36 hk36 b36 K36 hret36 hbrk36 => ?_)
    · rw [hs36] at r36
      dsimp only [aftM] at r36
      have hd : decide ((((((y45.length : Nat) : Int)).toNat : Nat) : Int) < (((y45.map iC).length : Nat) : Int)) = false := by rw [decide_eq_false_iff_not]; (try simp only [se_len, se_ch, List.length_map]); omega
      refine LoopW.round TT_ok [0, 1, 2, 3, 4, 8, 9, 10, 11, 12, 13, 14, 26, 27, 28, 29, 30, 47] ?_
      conv => whnf
      repeat' first | with_reducible rfl | with_reducible exact True.intro | with_reducible assumption | refine parkI ?_ | (refine And.intro ?_ ?_ <;> conv => whnf) | fail
      refine parkE (fun hc => ?_) (fun hc => ?_)
      · exact (Bool.false_ne_true (hd.symm.trans hc)).elim
      · clear hd
        conv => whnf
        replace r36 := grdS r36
        obtain ⟨g59, r36⟩ := r36
        replace g59 : fits (([[(I s36)]] ++ (s35.1.map iC))).length 8 := by simpa only [se_len, se_ch, List.length_map] using g59
        repeat' first | with_reducible rfl | with_reducible exact True.intro | with_reducible assumption | refine parkI ?_ | exact g59 | exact (rfl : (_ : Nat) = _) | exact NLss_map' _ | refine NLss_app ?_ ?_ | refine NLss_set ?_ ?_ | (refine And.intro ?_ ?_ <;> conv => whnf) | (simp only [se_map, se_byL]; exact rfl) | (simp only [se_map, se_byL, se_len, se_ch, List.length_map]; done) | fail
        have e := Option.some.inj r36
        refine LoopW.ren [(0, 0), (1, 1), (4, 2)] [(1, (LV.ro 1 (a1.map (roC 1 bC)))), (4, (LV.ptr 0 0 0)), (9, (LV.sl 1 0 (y45.map iC).length)), (10, (LV.sl 2 0 (((([s36] : (List Int)) ++ s35.1), s36).1.map iC).length)), (11, (I ((([s36] : (List Int)) ++ s35.1), s36).2))] 3 [(0, (.row 47 3 [[(I a0.Segs), (LV.ro 2 (a0.Plans.map PlanT.cells)), (LV.ro 2 (a0.Hosts.map HostT.cells))]])), (1, (.row 3 1 (y45.map iC))), (2, (.row 3 1 (((([s36] : (List Int)) ++ s35.1), s36).1.map iC)))] rfl ⟨rfl, rfl, rfl, (by exact congrArg (LV.sl 2 0) (by first | (simp only [se_map, se_byL, se_len, se_ch, List.length_map]; done) | ((try simp only [se_map, se_byL, se_len, se_ch, List.length_map]); (try simp only [se_len, se_ch, List.length_map] at *); omega) : (([[(I s36)]] ++ (s35.1.map iC))).length = (((([s36] : (List Int)) ++ s35.1), s36).1.map iC).length)), (by simp only [se_map, se_byL, se_len, se_ch, List.length_map] : ((I s36) : LV) = (I ((([s36] : (List Int)) ++ s35.1), s36).2)), trivial⟩ ⟨⟨rfl, rfl, .inl ⟨rfl, (by repeat' first | exact NLss_map' _ | refine NLss_app ?_ ?_ | refine NLss_set ?_ ?_ | exact True.intro | refine ⟨?_, ?_⟩)⟩⟩, rfl, rfl, ⟨⟨rfl, rfl, .inl ⟨rfl, (by repeat' first | exact NLss_map' _ | refine NLss_app ?_ ?_ | refine NLss_set ?_ ?_ | exact True.intro | refine ⟨?_, ?_⟩)⟩⟩, rfl, rfl, ⟨⟨rfl, rfl, .inl ⟨(by simp only [se_map, se_byL, se_len, se_ch, List.length_map] : (([[(I s36)]] ++ (s35.1.map iC)) : List (List LV)) = (((([s36] : (List Int)) ++ s35.1), s36).1.map iC)), (by repeat' first | exact NLss_map' _ | refine NLss_app ?_ ?_ | refine NLss_set ?_ ?_ | exact True.intro | refine ⟨?_, ?_⟩)⟩⟩, rfl, rfl, trivial⟩⟩⟩ rfl (K35 _ e.symm)
    · unfold ref17_Path_b36 at b36
      have hd : decide (((k36 : Nat) : Int) < (((y45.map iC).length : Nat) : Int)) = true := by rw [decide_eq_true_eq]; (try simp only [se_len, se_ch, List.length_map] at hk36); (try simp only [se_len, se_ch, List.length_map]); omega
      refine LoopW.round TT_ok [0, 1, 2, 3, 4, 8, 9, 10, 11, 12, 13, 14, 26, 27, 28, 29, 30, 47] ?_
      conv => whnf
      repeat' first | with_reducible rfl | with_reducible exact True.intro | with_reducible assumption | refine parkI ?_ | (refine And.intro ?_ ?_ <;> conv => whnf) | fail
      refine parkE (fun hc => ?_) (fun hc => ?_)
      · clear hd
        conv => whnf
        replace b36 := grdS b36
        obtain ⟨g50, b36⟩ := b36
        replace g50 : (0 : Int) ≤ ((k36 : Nat) : Int) ∧ ((k36 : Nat) : Int) < (((y45.map iC).length : Nat) : Int) := by simpa only [se_len, se_ch, List.length_map] using g50
        replace b36 := bindS b36
        obtain ⟨v51, hv51, b36⟩ := b36
        have i52 : nth (y45.map iC) (0 + ((((k36 : Nat) : Int) : Int).toNat)) = some [(I v51)] := by simpa only [se_map, se_len, se_ch, List.length_map, nth_eq, Nat.zero_add, List.getElem?_map] using gixNF (f := iC) hv51
        replace b36 := grdS b36
        obtain ⟨g53, b36⟩ := b36
        replace g53 : (0 : Int) ≤ s36 ∧ s36 < (((y45.map iC).length : Nat) : Int) := by simpa only [se_len, se_ch, List.length_map] using g53
        replace b36 := bindS b36
        obtain ⟨v54, hv54, b36⟩ := b36
        have i55 : nth (y45.map iC) (0 + ((s36 : Int).toNat)) = some [(I v54)] := by simpa only [se_map, se_len, se_ch, List.length_map, nth_eq, Nat.zero_add, List.getElem?_map] using gixNF (f := iC) hv54
        replace b36 := bindS b36
        obtain ⟨y56, hy56, b36⟩ := b36
        have c57 := fun (hg : (decide (v51 = (IntKind.i64.wrap (v54 - 1)))) = true) => c_ref17_Next a0 a1 ((k36 : Nat) : Int) s36 _ (gdS hg hy56)
        repeat' first | with_reducible rfl | with_reducible exact True.intro | with_reducible assumption | refine parkI ?_ | (refine ⟨_, c57, ?_⟩; conv => whnf) | exact g50 | exact g53 | (rw [i52]; conv => whnf) | (rw [i55]; conv => whnf) | exact (congrArg Bool.not h) | exact fun _ => True.intro | (refine And.intro ?_ ?_ <;> conv => whnf) | (intro h; (conv => whnf) <;> first | with_reducible rfl | assumption | exact h | exact (congrArg Bool.not h) | (refine ⟨h, True.intro⟩) | (refine ⟨congrArg Bool.not h, True.intro⟩) | (refine ⟨by assumption, True.intro⟩)) | (intro h; exact (Bool.false_ne_true (h.symm.trans (by assumption))).elim) | (intros; simp_all; done) | (refine gand ?_ h; assumption) | fail
        refine parkE (fun hc => ?_) (fun hc => ?_)
        · replace b36 := condT hc b36
          conv => whnf
          have e := Option.some.inj b36
          replace e := hbrk36 _ e.symm
          rw [e] at r36
          dsimp only [aftM] at r36
          replace r36 := grdS r36
          obtain ⟨g58, r36⟩ := r36
          replace g58 : fits (([[(I ((k36 : Nat) : Int))]] ++ (s35.1.map iC))).length 8 := by simpa only [se_len, se_ch, List.length_map] using g58
          repeat' first | with_reducible rfl | with_reducible exact True.intro | with_reducible assumption | refine parkI ?_ | exact g58 | exact (rfl : (_ : Nat) = _) | exact NLss_map' _ | refine NLss_app ?_ ?_ | refine NLss_set ?_ ?_ | (refine And.intro ?_ ?_ <;> conv => whnf) | (simp only [se_map, se_byL]; exact rfl) | (simp only [se_map, se_byL, se_len, se_ch, List.length_map]; done) | fail
          have e := Option.some.inj r36
          refine LoopW.ren [(0, 0), (1, 1), (4, 2)] [(1, (LV.ro 1 (a1.map (roC 1 bC)))), (4, (LV.ptr 0 0 0)), (9, (LV.sl 1 0 (y45.map iC).length)), (10, (LV.sl 2 0 (((([((k36 : Nat) : Int)] : (List Int)) ++ s35.1), ((k36 : Nat) : Int)).1.map iC).length)), (11, (I ((([((k36 : Nat) : Int)] : (List Int)) ++ s35.1), ((k36 : Nat) : Int)).2))] 3 [(0, (.row 47 3 [[(I a0.Segs), (LV.ro 2 (a0.Plans.map PlanT.cells)), (LV.ro 2 (a0.Hosts.map HostT.cells))]])), (1, (.row 3 1 (y45.map iC))), (2, (.row 3 1 (((([((k36 : Nat) : Int)] : (List Int)) ++ s35.1), ((k36 : Nat) : Int)).1.map iC)))] rfl ⟨rfl, rfl, rfl, (by exact congrArg (LV.sl 2 0) (by first | (simp only [se_map, se_byL, se_len, se_ch, List.length_map]; done) | ((try simp only [se_map, se_byL, se_len, se_ch, List.length_map]); (try simp only [se_len, se_ch, List.length_map] at *); omega) : (([[(I ((k36 : Nat) : Int))]] ++ (s35.1.map iC))).length = (((([((k36 : Nat) : Int)] : (List Int)) ++ s35.1), ((k36 : Nat) : Int)).1.map iC).length)), (by simp only [se_map, se_byL, se_len, se_ch, List.length_map] : ((I ((k36 : Nat) : Int)) : LV) = (I ((([((k36 : Nat) : Int)] : (List Int)) ++ s35.1), ((k36 : Nat) : Int)).2)), trivial⟩ ⟨⟨rfl, rfl, .inl ⟨rfl, (by repeat' first | exact NLss_map' _ | refine NLss_app ?_ ?_ | refine NLss_set ?_ ?_ | exact True.intro | refine ⟨?_, ?_⟩)⟩⟩, rfl, rfl, ⟨⟨rfl, rfl, .inl ⟨rfl, (by repeat' first | exact NLss_map' _ | refine NLss_app ?_ ?_ | refine NLss_set ?_ ?_ | exact True.intro | refine ⟨?_, ?_⟩)⟩⟩, rfl, rfl, ⟨⟨rfl, rfl, .inl ⟨(by simp only [se_map, se_byL, se_len, se_ch, List.length_map] : (([[(I ((k36 : Nat) : Int))]] ++ (s35.1.map iC)) : List (List LV)) = (((([((k36 : Nat) : Int)] : (List Int)) ++ s35.1), ((k36 : Nat) : Int)).1.map iC)), (by repeat' first | exact NLss_map' _ | refine NLss_app ?_ ?_ | refine NLss_set ?_ ?_ | exact True.intro | refine ⟨?_, ?_⟩)⟩⟩, rfl, rfl, trivial⟩⟩⟩ rfl (K35 _ e.symm)
        · replace b36 := condF hc b36
          conv => whnf
          repeat' first | with_reducible rfl | with_reducible exact True.intro | with_reducible assumption | refine parkI ?_ | (refine And.intro ?_ ?_ <;> conv => whnf) | fail
          have e := Option.some.inj b36
          refine LoopW.norm [(1, (LV.ro 1 (a1.map (roC 1 bC)))), (4, (LV.ptr 0 0 0)), (9, (LV.sl 1 0 (y45.map iC).length)), (10, (LV.sl 2 0 (s35.1.map iC).length)), (11, (I s36)), (27, (LV.sl 1 0 (y45.map iC).length)), (28, (I (((y45.map iC).length : Nat) : Int))), (29, (I ((k36 + 1 : Nat) : Int)))] 3 [(0, (.row 47 3 [[(I a0.Segs), (LV.ro 2 (a0.Plans.map PlanT.cells)), (LV.ro 2 (a0.Hosts.map HostT.cells))]])), (1, (.row 3 1 (y45.map iC))), (2, (.row 3 1 (s35.1.map iC)))] ⟨rfl, rfl, rfl, rfl, rfl, rfl, rfl, (congrArg (LV.int .i64) (w64_nat _ (by omega))), trivial⟩ ⟨⟨rfl, rfl, (by repeat' first | exact True.intro | exact rfl | exact NLs_bels (by assumption) | refine ⟨?_, ?_⟩)⟩, ⟨⟨rfl, rfl, NLss_bel (NLss_map' _)⟩, ⟨⟨rfl, rfl, NLss_bel (NLss_map' _)⟩, trivial⟩⟩⟩ (by repeat' first | exact True.intro | exact rfl | exact NLs_bels (by assumption) | refine ⟨?_, ?_⟩) rfl (K36 _ e.symm)
      · exact (Bool.false_ne_true (hc.symm.trans hd)).elim
  · replace b35 := condF hc b35
    conv => whnf
    have e := Option.some.inj b35
    replace e := hbrk35 _ e.symm
    rw [e] at r35
    dsimp only [aftM] at r35
    have e := Option.some.inj r35
    subst e
    repeat' first | with_reducible rfl | with_reducible exact True.intro | with_reducible assumption | exact Or.inr ⟨_, rfl, congrArg (fun q => some (Blk.row 3 1 q)) rfl⟩ | exact (congrArg Bool.not h) | exact fun _ => True.intro | exact (rfl : (_ : Nat) = _) | exact (rfl : (_ : LV) = _) | exact NLss_map' _ | refine NLss_app ?_ ?_ | refine NLss_set ?_ ?_ | (refine And.intro ?_ ?_ <;> conv => whnf) | (intro h; (conv => whnf) <;> first | with_reducible rfl | assumption | exact h | exact (congrArg Bool.not h) | (refine ⟨h, True.intro⟩) | (refine ⟨congrArg Bool.not h, True.intro⟩) | (refine ⟨by assumption, True.intro⟩)) | (intro h; exact (Bool.false_ne_true (h.symm.trans (by assumption))).elim) | (intros; simp_all; done) | (refine gand ?_ h; assumption) | (simp only [se_map, se_byL]; exact rfl) | (simp only [se_map, se_byL, se_len, se_ch, List.length_map]; done) | fail

theorem c_ref17_Path (a0 : LanT) (a1 : (List (List Bool))) (a2 : Int) (a3 : Int) (r : (List Int)) (h : ref17_Path a0 a1 a2 a3 = some r) : CallP Try.prog 114 [(LV.agg [(I a0.Segs), (LV.ro 2 (a0.Plans.map PlanT.cells)), (LV.ro 2 (a0.Hosts.map HostT.cells))]), (LV.ro 1 (a1.map (roC 1 bC))), (I a2), (I a3)] (LV.ro 1 (r.map iC)) := by
  exact CallF.toP (cf_ref17_Path a0 a1 a2 a3 r h) (by repeat' first | exact True.intro | assumption | refine ⟨?_, ?_⟩) (NLss_map' _)

end Go.RX
