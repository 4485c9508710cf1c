/- Plain functions, and what says that the program's functions compute them. -/
import Derived.Test.YtoahcombdhgmhaaLd
set_option linter.unusedVariables false
set_option linter.unusedSimpArgs false
open Go Go.RX Go.Proofs
namespace Go.RX
set_option maxRecDepth 10000
set_option maxHeartbeats 4000000
attribute [local irreducible] CallW CallP LoopW W IntKind.wrap bitI
def ref15_twice_b17 (a0 : LanT) (k16 : Nat) (x16 : PlanT) (s17 : Int) : Option (Step (Step Bool Unit) Int) :=
  (bif (decide (s17 < ((k16 : Nat) : Int))) then
    (gix a0.Plans s17).bind fun v1 =>
    (bif (decide (x16.ID = v1.ID)) then
      some (.ret (.ret true))
    else
      some (.nxt (IntKind.i64.wrap (s17 + 1))))
  else
    some (.brk s17))

def ref15_twice_b16 (a0 : LanT) (k16 : Nat) (x16 : PlanT) (s16 : Unit) : Option (Step Bool Unit) :=
  aft (loopF 1000000 (ref15_twice_b17 a0 k16 x16) 0) fun s17 =>
  some (.nxt ())

def ref15_twice_b19 (a0 : LanT) (k18 : Nat) (x18 : HostT) (s19 : Int) : Option (Step (Step Bool Unit) Int) :=
  (bif (decide (s19 < ((k18 : Nat) : Int))) then
    (gix a0.Hosts s19).bind fun v3 =>
    (bif (decide (x18.Mac = v3.Mac)) then
      some (.ret (.ret true))
    else
      some (.nxt (IntKind.i64.wrap (s19 + 1))))
  else
    some (.brk s19))

def ref15_twice_b18 (a0 : LanT) (k18 : Nat) (x18 : HostT) (s18 : Unit) : Option (Step Bool Unit) :=
  aft (loopF 1000000 (ref15_twice_b19 a0 k18 x18) 0) fun s19 =>
  some (.nxt ())

def ref15_twice (a0 : LanT) : Option Bool :=
  aft (rangeL (ref15_twice_b16 a0) a0.Plans ()) fun s16 =>
  aft (rangeL (ref15_twice_b18 a0) a0.Hosts ()) fun s18 =>
  some false

theorem c_ref15_twice (a0 : LanT) (r : Bool) (h : ref15_twice a0 = some r) : CallP Try.prog 158 [(LV.agg [(I a0.Segs), (LV.ro 2 (a0.Plans.map PlanT.cells)), (LV.ro 2 (a0.Hosts.map HostT.cells))])] (LV.bool r) := by
  unfold ref15_twice at h
  refine .intro (by repeat' first | exact True.intro | assumption | refine ⟨?_, ?_⟩) (.intro TT_ok Try.func158 rfl rfl [0, 1, 2, 3, 4, 5, 6, 9, 10, 11, 15, 30, 34, 35, 36, 40, 55] rfl ?_)
  conv => whnf
  repeat' first | with_reducible rfl | with_reducible exact True.intro | with_reducible assumption | refine parkI ?_ | (refine W.drawn TT_ok hmix1 rfl ?_; conv => whnf) | exact (congrArg Bool.not h) | exact fun _ => True.intro | exact (rfl : (_ : Nat) = _) | exact (rfl : (_ : LV) = _) | exact NLss_map' _ | refine NLss_app ?_ ?_ | refine NLss_rep ?_ | refine NLss_set ?_ ?_ | refine NLss_take ?_ | refine NLss_drop ?_ | (refine And.intro ?_ ?_ <;> conv => whnf) | (intro h; (conv => whnf) <;> first | with_reducible rfl | assumption | exact h | exact (congrArg Bool.not h) | (refine ⟨h, True.intro⟩) | (refine ⟨congrArg Bool.not h, True.intro⟩) | (refine ⟨by assumption, True.intro⟩)) | (intro h; exact (Bool.false_ne_true (h.symm.trans (by assumption))).elim) | (intro h; exact (Bool.false_ne_true (Eq.trans (Eq.symm (by assumption)) h)).elim) | (intros; simp_all; done) | (intros; exfalso; simp_all; done) | (refine gand ?_ h; assumption) | (simp only [se_map, se_byL]; exact rfl) | (simp only [se_map, se_byL, se_len, se_ch, List.length_map]; done) | fail
  replace h := aftS h
  obtain ⟨O16, hO16, r16⟩ := h
  refine LoopW.norm [(1, (LV.ptr 0 0 0)), (9, (I (((a0.Plans.map PlanT.cells).length : Nat) : Int))), (10, (I ((0 : Nat) : Int)))] 1 [(0, (.row 47 3 [[(I a0.Segs), (LV.ro 2 (a0.Plans.map PlanT.cells)), (LV.ro 2 (a0.Hosts.map HostT.cells))]]))] ⟨rfl, rfl, rfl, trivial⟩ ⟨⟨rfl, rfl, (by repeat' first | exact True.intro | exact rfl | exact NLs_bels (by assumption) | refine ⟨?_, ?_⟩)⟩, trivial⟩ (by repeat' first | exact True.intro | exact rfl | exact NLs_bels (by assumption) | refine ⟨?_, ?_⟩) rfl ?_
  refine LoopW.forR (fun k16 s16 => [(1, (LV.ptr 0 0 0)), (9, (I (((a0.Plans.map PlanT.cells).length : Nat) : Int))), (10, (I ((k16 : Nat) : Int)))]) (fun s16 => ⟨1, [(0, (.row 47 3 [[(I a0.Segs), (LV.ro 2 (a0.Plans.map PlanT.cells)), (LV.ro 2 (a0.Hosts.map HostT.cells))]]))]⟩) hO16 (fun hl16 s16 hs16 => ?_) (fun hl16 k16 x16 s16 o16 hk16 hx16 b16 K16 hret16 hbrk16 => ?_)
  · rw [hs16] at r16
    dsimp only [aftM] at r16
    have hd : decide (((a0.Plans.length : Nat) : Int) < (((a0.Plans.map PlanT.cells).length : Nat) : Int)) = false := by rw [decide_eq_false_iff_not]; (try simp only [se_len, se_ch, List.length_map]); omega
    refine LoopW.round TT_ok [0, 1, 2, 3, 4, 5, 6, 9, 10, 11, 15, 30, 34, 35, 36, 40, 55] ?_
    conv => whnf
    repeat' first | with_reducible rfl | with_reducible exact True.intro | with_reducible assumption | refine parkI ?_ | (refine W.drawn TT_ok hmix1 rfl ?_; conv => whnf) | exact (congrArg Bool.not h) | exact fun _ => True.intro | exact (rfl : (_ : Nat) = _) | exact (rfl : (_ : LV) = _) | exact NLss_map' _ | refine NLss_app ?_ ?_ | refine NLss_rep ?_ | refine NLss_set ?_ ?_ | refine NLss_take ?_ | refine NLss_drop ?_ | (refine And.intro ?_ ?_ <;> conv => whnf) | (intro h; (conv => whnf) <;> first | with_reducible rfl | assumption | exact h | exact (congrArg Bool.not h) | (refine ⟨h, True.intro⟩) | (refine ⟨congrArg Bool.not h, True.intro⟩) | (refine ⟨by assumption, True.intro⟩)) | (intro h; exact (Bool.false_ne_true (h.symm.trans (by assumption))).elim) | (intro h; exact (Bool.false_ne_true (Eq.trans (Eq.symm (by assumption)) h)).elim) | (intros; simp_all; done) | (intros; exfalso; simp_all; done) | (refine gand ?_ h; assumption) | (simp only [se_map, se_byL]; exact rfl) | (simp only [se_map, se_byL, se_len, se_ch, List.length_map]; done) | fail
    refine parkE (fun hc => ?_) (fun hc => ?_)
    · exact (Bool.false_ne_true (hd.symm.trans hc)).elim
    · clear hd
      conv => whnf
      repeat' first | with_reducible rfl | with_reducible exact True.intro | with_reducible assumption | refine parkI ?_ | (refine W.drawn TT_ok hmix1 rfl ?_; conv => whnf) | exact (congrArg Bool.not h) | exact fun _ => True.intro | exact (rfl : (_ : Nat) = _) | exact (rfl : (_ : LV) = _) | exact NLss_map' _ | refine NLss_app ?_ ?_ | refine NLss_rep ?_ | refine NLss_set ?_ ?_ | refine NLss_take ?_ | refine NLss_drop ?_ | (refine And.intro ?_ ?_ <;> conv => whnf) | (intro h; (conv => whnf) <;> first | with_reducible rfl | assumption | exact h | exact (congrArg Bool.not h) | (refine ⟨h, True.intro⟩) | (refine ⟨congrArg Bool.not h, True.intro⟩) | (refine ⟨by assumption, True.intro⟩)) | (intro h; exact (Bool.false_ne_true (h.symm.trans (by assumption))).elim) | (intro h; exact (Bool.false_ne_true (Eq.trans (Eq.symm (by assumption)) h)).elim) | (intros; simp_all; done) | (intros; exfalso; simp_all; done) | (refine gand ?_ h; assumption) | (simp only [se_map, se_byL]; exact rfl) | (simp only [se_map, se_byL, se_len, se_ch, List.length_map]; done) | fail
      replace r16 := aftS r16
      obtain ⟨O18, hO18, r18⟩ := r16
      refine LoopW.norm [(1, (LV.ptr 0 0 0)), (34, (I (((a0.Hosts.map HostT.cells).length : Nat) : Int))), (35, (I ((0 : Nat) : Int)))] 1 [(0, (.row 47 3 [[(I a0.Segs), (LV.ro 2 (a0.Plans.map PlanT.cells)), (LV.ro 2 (a0.Hosts.map HostT.cells))]]))] ⟨rfl, rfl, rfl, trivial⟩ ⟨⟨rfl, rfl, (by repeat' first | exact True.intro | exact rfl | exact NLs_bels (by assumption) | refine ⟨?_, ?_⟩)⟩, trivial⟩ (by repeat' first | exact True.intro | exact rfl | exact NLs_bels (by assumption) | refine ⟨?_, ?_⟩) rfl ?_
      refine LoopW.forR (fun k18 s18 => [(1, (LV.ptr 0 0 0)), (34, (I (((a0.Hosts.map HostT.cells).length : Nat) : Int))), (35, (I ((k18 : Nat) : Int)))]) (fun s18 => ⟨1, [(0, (.row 47 3 [[(I a0.Segs), (LV.ro 2 (a0.Plans.map PlanT.cells)), (LV.ro 2 (a0.Hosts.map HostT.cells))]]))]⟩) hO18 (fun hl18 s18 hs18 => ?_) (fun hl18 k18 x18 s18 o18 hk18 hx18 b18 K18 hret18 hbrk18 => ?_)
      · rw [hs18] at r18
        dsimp only [aftM] at r18
        have hd : decide (((a0.Hosts.length : Nat) : Int) < (((a0.Hosts.map HostT.cells).length : Nat) : Int)) = false := by rw [decide_eq_false_iff_not]; (try simp only [se_len, se_ch, List.length_map]); omega
        refine LoopW.round TT_ok [0, 1, 2, 3, 4, 5, 6, 9, 10, 11, 15, 30, 34, 35, 36, 40, 55] ?_
        conv => whnf
        repeat' first | with_reducible rfl | with_reducible exact True.intro | with_reducible assumption | refine parkI ?_ | (refine W.drawn TT_ok hmix1 rfl ?_; conv => whnf) | exact (congrArg Bool.not h) | exact fun _ => True.intro | exact (rfl : (_ : Nat) = _) | exact (rfl : (_ : LV) = _) | exact NLss_map' _ | refine NLss_app ?_ ?_ | refine NLss_rep ?_ | refine NLss_set ?_ ?_ | refine NLss_take ?_ | refine NLss_drop ?_ | (refine And.intro ?_ ?_ <;> conv => whnf) | (intro h; (conv => whnf) <;> first | with_reducible rfl | assumption | exact h | exact (congrArg Bool.not h) | (refine ⟨h, True.intro⟩) | (refine ⟨congrArg Bool.not h, True.intro⟩) | (refine ⟨by assumption, True.intro⟩)) | (intro h; exact (Bool.false_ne_true (h.symm.trans (by assumption))).elim) | (intro h; exact (Bool.false_ne_true (Eq.trans (Eq.symm (by assumption)) h)).elim) | (intros; simp_all; done) | (intros; exfalso; simp_all; done) | (refine gand ?_ h; assumption) | (simp only [se_map, se_byL]; exact rfl) | (simp only [se_map, se_byL, se_len, se_ch, List.length_map]; done) | fail
        refine parkE (fun hc => ?_) (fun hc => ?_)
        · exact (Bool.false_ne_true (hd.symm.trans hc)).elim
        · clear hd
          conv => whnf
          have e := Option.some.inj r18
          subst e
          repeat' first | with_reducible rfl | with_reducible exact True.intro | with_reducible assumption | (refine W.drawn TT_ok hmix1 rfl ?_; conv => whnf) | exact (congrArg Bool.not h) | exact fun _ => True.intro | exact (rfl : (_ : Nat) = _) | exact (rfl : (_ : LV) = _) | exact NLss_map' _ | refine NLss_app ?_ ?_ | refine NLss_rep ?_ | refine NLss_set ?_ ?_ | refine NLss_take ?_ | refine NLss_drop ?_ | (refine And.intro ?_ ?_ <;> conv => whnf) | (intro h; (conv => whnf) <;> first | with_reducible rfl | assumption | exact h | exact (congrArg Bool.not h) | (refine ⟨h, True.intro⟩) | (refine ⟨congrArg Bool.not h, True.intro⟩) | (refine ⟨by assumption, True.intro⟩)) | (intro h; exact (Bool.false_ne_true (h.symm.trans (by assumption))).elim) | (intro h; exact (Bool.false_ne_true (Eq.trans (Eq.symm (by assumption)) h)).elim) | (intros; simp_all; done) | (intros; exfalso; simp_all; done) | (refine gand ?_ h; assumption) | (simp only [se_map, se_byL]; exact rfl) | (simp only [se_map, se_byL, se_len, se_ch, List.length_map]; done) | fail
      · unfold ref15_twice_b18 at b18
        have hd : decide (((k18 : Nat) : Int) < (((a0.Hosts.map HostT.cells).length : Nat) : Int)) = true := by rw [decide_eq_true_eq]; (try simp only [se_len, se_ch, List.length_map] at hk18); (try simp only [se_len, se_ch, List.length_map]); omega
        refine LoopW.round TT_ok [0, 1, 2, 3, 4, 5, 6, 9, 10, 11, 15, 30, 34, 35, 36, 40, 55] ?_
        conv => whnf
        repeat' first | with_reducible rfl | with_reducible exact True.intro | with_reducible assumption | refine parkI ?_ | (refine W.drawn TT_ok hmix1 rfl ?_; conv => whnf) | exact (congrArg Bool.not h) | exact fun _ => True.intro | exact (rfl : (_ : Nat) = _) | exact (rfl : (_ : LV) = _) | exact NLss_map' _ | refine NLss_app ?_ ?_ | refine NLss_rep ?_ | refine NLss_set ?_ ?_ | refine NLss_take ?_ | refine NLss_drop ?_ | (refine And.intro ?_ ?_ <;> conv => whnf) | (intro h; (conv => whnf) <;> first | with_reducible rfl | assumption | exact h | exact (congrArg Bool.not h) | (refine ⟨h, True.intro⟩) | (refine ⟨congrArg Bool.not h, True.intro⟩) | (refine ⟨by assumption, True.intro⟩)) | (intro h; exact (Bool.false_ne_true (h.symm.trans (by assumption))).elim) | (intro h; exact (Bool.false_ne_true (Eq.trans (Eq.symm (by assumption)) h)).elim) | (intros; simp_all; done) | (intros; exfalso; simp_all; done) | (refine gand ?_ h; assumption) | (simp only [se_map, se_byL]; exact rfl) | (simp only [se_map, se_byL, se_len, se_ch, List.length_map]; done) | fail
        refine parkE (fun hc => ?_) (fun hc => ?_)
        · clear hd
          conv => whnf
          repeat' first | with_reducible rfl | with_reducible exact True.intro | with_reducible assumption | refine parkI ?_ | (refine W.drawn TT_ok hmix1 rfl ?_; conv => whnf) | exact (congrArg Bool.not h) | exact fun _ => True.intro | exact (rfl : (_ : Nat) = _) | exact (rfl : (_ : LV) = _) | exact NLss_map' _ | refine NLss_app ?_ ?_ | refine NLss_rep ?_ | refine NLss_set ?_ ?_ | refine NLss_take ?_ | refine NLss_drop ?_ | (refine And.intro ?_ ?_ <;> conv => whnf) | (intro h; (conv => whnf) <;> first | with_reducible rfl | assumption | exact h | exact (congrArg Bool.not h) | (refine ⟨h, True.intro⟩) | (refine ⟨congrArg Bool.not h, True.intro⟩) | (refine ⟨by assumption, True.intro⟩)) | (intro h; exact (Bool.false_ne_true (h.symm.trans (by assumption))).elim) | (intro h; exact (Bool.false_ne_true (Eq.trans (Eq.symm (by assumption)) h)).elim) | (intros; simp_all; done) | (intros; exfalso; simp_all; done) | (refine gand ?_ h; assumption) | (simp only [se_map, se_byL]; exact rfl) | (simp only [se_map, se_byL, se_len, se_ch, List.length_map]; done) | fail
          replace b18 := aftS b18
          obtain ⟨O19, hO19, r19⟩ := b18
          refine LoopW.norm [(1, (LV.ptr 0 0 0)), (5, (I ((k18 : Nat) : Int))), (6, (I 0)), (34, (I (((a0.Hosts.map HostT.cells).length : Nat) : Int))), (35, (I ((k18 : Nat) : Int)))] 1 [(0, (.row 47 3 [[(I a0.Segs), (LV.ro 2 (a0.Plans.map PlanT.cells)), (LV.ro 2 (a0.Hosts.map HostT.cells))]]))] ⟨rfl, rfl, rfl, rfl, rfl, trivial⟩ ⟨⟨rfl, rfl, (by repeat' first | exact True.intro | exact rfl | exact NLs_bels (by assumption) | refine ⟨?_, ?_⟩)⟩, trivial⟩ (by repeat' first | exact True.intro | exact rfl | exact NLs_bels (by assumption) | refine ⟨?_, ?_⟩) rfl ?_
          refine LoopW.forF (fun s19 => [(1, (LV.ptr 0 0 0)), (5, (I ((k18 : Nat) : Int))), (6, (I s19)), (34, (I (((a0.Hosts.map HostT.cells).length : Nat) : Int))), (35, (I ((k18 : Nat) : Int)))]) (fun s19 => ⟨1, [(0, (.row 47 3 [[(I a0.Segs), (LV.ro 2 (a0.Plans.map PlanT.cells)), (LV.ro 2 (a0.Hosts.map HostT.cells))]]))]⟩) hO19 (fun s19 o19 b19 K19 hret19 hbrk19 => ?_)
          unfold ref15_twice_b19 at b19
          refine LoopW.round TT_ok [0, 1, 2, 3, 4, 5, 6, 9, 10, 11, 15, 30, 34, 35, 36, 40, 55] ?_
          conv => whnf
          repeat' first | with_reducible rfl | with_reducible exact True.intro | with_reducible assumption | refine parkI ?_ | (refine W.drawn TT_ok hmix1 rfl ?_; conv => whnf) | exact (congrArg Bool.not h) | exact fun _ => True.intro | exact (rfl : (_ : Nat) = _) | exact (rfl : (_ : LV) = _) | exact NLss_map' _ | refine NLss_app ?_ ?_ | refine NLss_rep ?_ | refine NLss_set ?_ ?_ | refine NLss_take ?_ | refine NLss_drop ?_ | (refine And.intro ?_ ?_ <;> conv => whnf) | (intro h; (conv => whnf) <;> first | with_reducible rfl | assumption | exact h | exact (congrArg Bool.not h) | (refine ⟨h, True.intro⟩) | (refine ⟨congrArg Bool.not h, True.intro⟩) | (refine ⟨by assumption, True.intro⟩)) | (intro h; exact (Bool.false_ne_true (h.symm.trans (by assumption))).elim) | (intro h; exact (Bool.false_ne_true (Eq.trans (Eq.symm (by assumption)) h)).elim) | (intros; simp_all; done) | (intros; exfalso; simp_all; done) | (refine gand ?_ h; assumption) | (simp only [se_map, se_byL]; exact rfl) | (simp only [se_map, se_byL, se_len, se_ch, List.length_map]; done) | fail
          refine parkE (fun hc => ?_) (fun hc => ?_)
          · replace b19 := condT hc b19
            conv => whnf
            replace b19 := bindS b19
            obtain ⟨v3, hv3, b19⟩ := b19
            have i4 := gixF (f := HostT.cells) hv3
            repeat' first | with_reducible rfl | with_reducible exact True.intro | with_reducible assumption | refine parkI ?_ | (refine ⟨_, (kixF (f := HostT.cells) hx18), ?_⟩; conv => whnf) | (refine ⟨_, i4, ?_⟩; conv => whnf) | (refine W.drawn TT_ok hmix1 rfl ?_; conv => whnf) | exact (congrArg Bool.not h) | exact fun _ => True.intro | exact (rfl : (_ : Nat) = _) | exact (rfl : (_ : LV) = _) | exact NLss_map' _ | refine NLss_app ?_ ?_ | refine NLss_rep ?_ | refine NLss_set ?_ ?_ | refine NLss_take ?_ | refine NLss_drop ?_ | (refine And.intro ?_ ?_ <;> conv => whnf) | (intro h; (conv => whnf) <;> first | with_reducible rfl | assumption | exact h | exact (congrArg Bool.not h) | (refine ⟨h, True.intro⟩) | (refine ⟨congrArg Bool.not h, True.intro⟩) | (refine ⟨by assumption, True.intro⟩)) | (intro h; exact (Bool.false_ne_true (h.symm.trans (by assumption))).elim) | (intro h; exact (Bool.false_ne_true (Eq.trans (Eq.symm (by assumption)) h)).elim) | (intros; simp_all; done) | (intros; exfalso; simp_all; done) | (refine gand ?_ h; assumption) | (simp only [se_map, se_byL]; exact rfl) | (simp only [se_map, se_byL, se_len, se_ch, List.length_map]; done) | fail
            refine parkE (fun hc => ?_) (fun hc => ?_)
            · replace b19 := condT hc b19
              conv => whnf
              have e := Option.some.inj b19
              replace e := hret19 _ e.symm
              rw [e] at r19
              replace e := Option.some.inj r19
              replace e := hret18 _ e.symm
              rw [e] at r18
              replace e := Option.some.inj r18
              subst e
              repeat' first | with_reducible rfl | with_reducible exact True.intro | with_reducible assumption | (refine W.drawn TT_ok hmix1 rfl ?_; conv => whnf) | exact (congrArg Bool.not h) | exact fun _ => True.intro | exact (rfl : (_ : Nat) = _) | exact (rfl : (_ : LV) = _) | exact NLss_map' _ | refine NLss_app ?_ ?_ | refine NLss_rep ?_ | refine NLss_set ?_ ?_ | refine NLss_take ?_ | refine NLss_drop ?_ | (refine And.intro ?_ ?_ <;> conv => whnf) | (intro h; (conv => whnf) <;> first | with_reducible rfl | assumption | exact h | exact (congrArg Bool.not h) | (refine ⟨h, True.intro⟩) | (refine ⟨congrArg Bool.not h, True.intro⟩) | (refine ⟨by assumption, True.intro⟩)) | (intro h; exact (Bool.false_ne_true (h.symm.trans (by assumption))).elim) | (intro h; exact (Bool.false_ne_true (Eq.trans (Eq.symm (by assumption)) h)).elim) | (intros; simp_all; done) | (intros; exfalso; simp_all; done) | (refine gand ?_ h; assumption) | (simp only [se_map, se_byL]; exact rfl) | (simp only [se_map, se_byL, se_len, se_ch, List.length_map]; done) | fail
            · replace b19 := condF hc b19
              conv => whnf
              repeat' first | with_reducible rfl | with_reducible exact True.intro | with_reducible assumption | refine parkI ?_ | (refine W.drawn TT_ok hmix1 rfl ?_; conv => whnf) | exact (congrArg Bool.not h) | exact fun _ => True.intro | exact (rfl : (_ : Nat) = _) | exact (rfl : (_ : LV) = _) | exact NLss_map' _ | refine NLss_app ?_ ?_ | refine NLss_rep ?_ | refine NLss_set ?_ ?_ | refine NLss_take ?_ | refine NLss_drop ?_ | (refine And.intro ?_ ?_ <;> conv => whnf) | (intro h; (conv => whnf) <;> first | with_reducible rfl | assumption | exact h | exact (congrArg Bool.not h) | (refine ⟨h, True.intro⟩) | (refine ⟨congrArg Bool.not h, True.intro⟩) | (refine ⟨by assumption, True.intro⟩)) | (intro h; exact (Bool.false_ne_true (h.symm.trans (by assumption))).elim) | (intro h; exact (Bool.false_ne_true (Eq.trans (Eq.symm (by assumption)) h)).elim) | (intros; simp_all; done) | (intros; exfalso; simp_all; done) | (refine gand ?_ h; assumption) | (simp only [se_map, se_byL]; exact rfl) | (simp only [se_map, se_byL, se_len, se_ch, List.length_map]; done) | fail
              have e := Option.some.inj b19
              refine LoopW.norm [(1, (LV.ptr 0 0 0)), (5, (I ((k18 : Nat) : Int))), (6, (I (IntKind.i64.wrap (s19 + 1)))), (34, (I (((a0.Hosts.map HostT.cells).length : Nat) : Int))), (35, (I ((k18 : Nat) : Int)))] 1 [(0, (.row 47 3 [[(I a0.Segs), (LV.ro 2 (a0.Plans.map PlanT.cells)), (LV.ro 2 (a0.Hosts.map HostT.cells))]]))] ⟨rfl, rfl, rfl, rfl, rfl, trivial⟩ ⟨⟨rfl, rfl, (by repeat' first | exact True.intro | exact rfl | exact NLs_bels (by assumption) | refine ⟨?_, ?_⟩)⟩, trivial⟩ (by repeat' first | exact True.intro | exact rfl | exact NLs_bels (by assumption) | refine ⟨?_, ?_⟩) rfl (K19 _ e.symm)
          · replace b19 := condF hc b19
            conv => whnf
            have e := Option.some.inj b19
            replace e := hbrk19 _ e.symm
            rw [e] at r19
            dsimp only [aftM] at r19
            repeat' first | with_reducible rfl | with_reducible exact True.intro | with_reducible assumption | refine parkI ?_ | (refine W.drawn TT_ok hmix1 rfl ?_; conv => whnf) | exact (congrArg Bool.not h) | exact fun _ => True.intro | exact (rfl : (_ : Nat) = _) | exact (rfl : (_ : LV) = _) | exact NLss_map' _ | refine NLss_app ?_ ?_ | refine NLss_rep ?_ | refine NLss_set ?_ ?_ | refine NLss_take ?_ | refine NLss_drop ?_ | (refine And.intro ?_ ?_ <;> conv => whnf) | (intro h; (conv => whnf) <;> first | with_reducible rfl | assumption | exact h | exact (congrArg Bool.not h) | (refine ⟨h, True.intro⟩) | (refine ⟨congrArg Bool.not h, True.intro⟩) | (refine ⟨by assumption, True.intro⟩)) | (intro h; exact (Bool.false_ne_true (h.symm.trans (by assumption))).elim) | (intro h; exact (Bool.false_ne_true (Eq.trans (Eq.symm (by assumption)) h)).elim) | (intros; simp_all; done) | (intros; exfalso; simp_all; done) | (refine gand ?_ h; assumption) | (simp only [se_map, se_byL]; exact rfl) | (simp only [se_map, se_byL, se_len, se_ch, List.length_map]; done) | fail
            have e := Option.some.inj r19
            refine LoopW.norm [(1, (LV.ptr 0 0 0)), (34, (I (((a0.Hosts.map HostT.cells).length : Nat) : Int))), (35, (I ((k18 + 1 : Nat) : Int)))] 1 [(0, (.row 47 3 [[(I a0.Segs), (LV.ro 2 (a0.Plans.map PlanT.cells)), (LV.ro 2 (a0.Hosts.map HostT.cells))]]))] ⟨rfl, rfl, (congrArg (LV.int .i64) (w64_nat _ (by omega))), trivial⟩ ⟨⟨rfl, rfl, (by repeat' first | exact True.intro | exact rfl | exact NLs_bels (by assumption) | refine ⟨?_, ?_⟩)⟩, trivial⟩ (by repeat' first | exact True.intro | exact rfl | exact NLs_bels (by assumption) | refine ⟨?_, ?_⟩) rfl (K18 _ e.symm)
        · exact (Bool.false_ne_true (hc.symm.trans hd)).elim
  · unfold ref15_twice_b16 at b16
    have hd : decide (((k16 : Nat) : Int) < (((a0.Plans.map PlanT.cells).length : Nat) : Int)) = true := by rw [decide_eq_true_eq]; (try simp only [se_len, se_ch, List.length_map] at hk16); (try simp only [se_len, se_ch, List.length_map]); omega
    refine LoopW.round TT_ok [0, 1, 2, 3, 4, 5, 6, 9, 10, 11, 15, 30, 34, 35, 36, 40, 55] ?_
    conv => whnf
    repeat' first | with_reducible rfl | with_reducible exact True.intro | with_reducible assumption | refine parkI ?_ | (refine W.drawn TT_ok hmix1 rfl ?_; conv => whnf) | exact (congrArg Bool.not h) | exact fun _ => True.intro | exact (rfl : (_ : Nat) = _) | exact (rfl : (_ : LV) = _) | exact NLss_map' _ | refine NLss_app ?_ ?_ | refine NLss_rep ?_ | refine NLss_set ?_ ?_ | refine NLss_take ?_ | refine NLss_drop ?_ | (refine And.intro ?_ ?_ <;> conv => whnf) | (intro h; (conv => whnf) <;> first | with_reducible rfl | assumption | exact h | exact (congrArg Bool.not h) | (refine ⟨h, True.intro⟩) | (refine ⟨congrArg Bool.not h, True.intro⟩) | (refine ⟨by assumption, True.intro⟩)) | (intro h; exact (Bool.false_ne_true (h.symm.trans (by assumption))).elim) | (intro h; exact (Bool.false_ne_true (Eq.trans (Eq.symm (by assumption)) h)).elim) | (intros; simp_all; done) | (intros; exfalso; simp_all; done) | (refine gand ?_ h; assumption) | (simp only [se_map, se_byL]; exact rfl) | (simp only [se_map, se_byL, se_len, se_ch, List.length_map]; done) | fail
    refine parkE (fun hc => ?_) (fun hc => ?_)
    · clear hd
      conv => whnf
      repeat' first | with_reducible rfl | with_reducible exact True.intro | with_reducible assumption | refine parkI ?_ | (refine W.drawn TT_ok hmix1 rfl ?_; conv => whnf) | exact (congrArg Bool.not h) | exact fun _ => True.intro | exact (rfl : (_ : Nat) = _) | exact (rfl : (_ : LV) = _) | exact NLss_map' _ | refine NLss_app ?_ ?_ | refine NLss_rep ?_ | refine NLss_set ?_ ?_ | refine NLss_take ?_ | refine NLss_drop ?_ | (refine And.intro ?_ ?_ <;> conv => whnf) | (intro h; (conv => whnf) <;> first | with_reducible rfl | assumption | exact h | exact (congrArg Bool.not h) | (refine ⟨h, True.intro⟩) | (refine ⟨congrArg Bool.not h, True.intro⟩) | (refine ⟨by assumption, True.intro⟩)) | (intro h; exact (Bool.false_ne_true (h.symm.trans (by assumption))).elim) | (intro h; exact (Bool.false_ne_true (Eq.trans (Eq.symm (by assumption)) h)).elim) | (intros; simp_all; done) | (intros; exfalso; simp_all; done) | (refine gand ?_ h; assumption) | (simp only [se_map, se_byL]; exact rfl) | (simp only [se_map, se_byL, se_len, se_ch, List.length_map]; done) | fail
      replace b16 := aftS b16
      obtain ⟨O17, hO17, r17⟩ := b16
      refine LoopW.norm [(1, (LV.ptr 0 0 0)), (3, (I ((k16 : Nat) : Int))), (4, (I 0)), (9, (I (((a0.Plans.map PlanT.cells).length : Nat) : Int))), (10, (I ((k16 : Nat) : Int)))] 1 [(0, (.row 47 3 [[(I a0.Segs), (LV.ro 2 (a0.Plans.map PlanT.cells)), (LV.ro 2 (a0.Hosts.map HostT.cells))]]))] ⟨rfl, rfl, rfl, rfl, rfl, trivial⟩ ⟨⟨rfl, rfl, (by repeat' first | exact True.intro | exact rfl | exact NLs_bels (by assumption) | refine ⟨?_, ?_⟩)⟩, trivial⟩ (by repeat' first | exact True.intro | exact rfl | exact NLs_bels (by assumption) | refine ⟨?_, ?_⟩) rfl ?_
      refine LoopW.forF (fun s17 => [(1, (LV.ptr 0 0 0)), (3, (I ((k16 : Nat) : Int))), (4, (I s17)), (9, (I (((a0.Plans.map PlanT.cells).length : Nat) : Int))), (10, (I ((k16 : Nat) : Int)))]) (fun s17 => ⟨1, [(0, (.row 47 3 [[(I a0.Segs), (LV.ro 2 (a0.Plans.map PlanT.cells)), (LV.ro 2 (a0.Hosts.map HostT.cells))]]))]⟩) hO17 (fun s17 o17 b17 K17 hret17 hbrk17 => ?_)
      unfold ref15_twice_b17 at b17
      refine LoopW.round TT_ok [0, 1, 2, 3, 4, 5, 6, 9, 10, 11, 15, 30, 34, 35, 36, 40, 55] ?_
      conv => whnf
      repeat' first | with_reducible rfl | with_reducible exact True.intro | with_reducible assumption | refine parkI ?_ | (refine W.drawn TT_ok hmix1 rfl ?_; conv => whnf) | exact (congrArg Bool.not h) | exact fun _ => True.intro | exact (rfl : (_ : Nat) = _) | exact (rfl : (_ : LV) = _) | exact NLss_map' _ | refine NLss_app ?_ ?_ | refine NLss_rep ?_ | refine NLss_set ?_ ?_ | refine NLss_take ?_ | refine NLss_drop ?_ | (refine And.intro ?_ ?_ <;> conv => whnf) | (intro h; (conv => whnf) <;> first | with_reducible rfl | assumption | exact h | exact (congrArg Bool.not h) | (refine ⟨h, True.intro⟩) | (refine ⟨congrArg Bool.not h, True.intro⟩) | (refine ⟨by assumption, True.intro⟩)) | (intro h; exact (Bool.false_ne_true (h.symm.trans (by assumption))).elim) | (intro h; exact (Bool.false_ne_true (Eq.trans (Eq.symm (by assumption)) h)).elim) | (intros; simp_all; done) | (intros; exfalso; simp_all; done) | (refine gand ?_ h; assumption) | (simp only [se_map, se_byL]; exact rfl) | (simp only [se_map, se_byL, se_len, se_ch, List.length_map]; done) | fail
      refine parkE (fun hc => ?_) (fun hc => ?_)
      · replace b17 := condT hc b17
        conv => whnf
        replace b17 := bindS b17
        obtain ⟨v1, hv1, b17⟩ := b17
        have i2 := gixF (f := PlanT.cells) hv1
        repeat' first | with_reducible rfl | with_reducible exact True.intro | with_reducible assumption | refine parkI ?_ | (refine ⟨_, (kixF (f := PlanT.cells) hx16), ?_⟩; conv => whnf) | (refine ⟨_, i2, ?_⟩; conv => whnf) | (refine W.drawn TT_ok hmix1 rfl ?_; conv => whnf) | exact (congrArg Bool.not h) | exact fun _ => True.intro | exact (rfl : (_ : Nat) = _) | exact (rfl : (_ : LV) = _) | exact NLss_map' _ | refine NLss_app ?_ ?_ | refine NLss_rep ?_ | refine NLss_set ?_ ?_ | refine NLss_take ?_ | refine NLss_drop ?_ | (refine And.intro ?_ ?_ <;> conv => whnf) | (intro h; (conv => whnf) <;> first | with_reducible rfl | assumption | exact h | exact (congrArg Bool.not h) | (refine ⟨h, True.intro⟩) | (refine ⟨congrArg Bool.not h, True.intro⟩) | (refine ⟨by assumption, True.intro⟩)) | (intro h; exact (Bool.false_ne_true (h.symm.trans (by assumption))).elim) | (intro h; exact (Bool.false_ne_true (Eq.trans (Eq.symm (by assumption)) h)).elim) | (intros; simp_all; done) | (intros; exfalso; simp_all; done) | (refine gand ?_ h; assumption) | (simp only [se_map, se_byL]; exact rfl) | (simp only [se_map, se_byL, se_len, se_ch, List.length_map]; done) | fail
        refine parkE (fun hc => ?_) (fun hc => ?_)
        · replace b17 := condT hc b17
          conv => whnf
          have e := Option.some.inj b17
          replace e := hret17 _ e.symm
          rw [e] at r17
          replace e := Option.some.inj r17
          replace e := hret16 _ e.symm
          rw [e] at r16
          replace e := Option.some.inj r16
          subst e
          repeat' first | with_reducible rfl | with_reducible exact True.intro | with_reducible assumption | (refine W.drawn TT_ok hmix1 rfl ?_; conv => whnf) | exact (congrArg Bool.not h) | exact fun _ => True.intro | exact (rfl : (_ : Nat) = _) | exact (rfl : (_ : LV) = _) | exact NLss_map' _ | refine NLss_app ?_ ?_ | refine NLss_rep ?_ | refine NLss_set ?_ ?_ | refine NLss_take ?_ | refine NLss_drop ?_ | (refine And.intro ?_ ?_ <;> conv => whnf) | (intro h; (conv => whnf) <;> first | with_reducible rfl | assumption | exact h | exact (congrArg Bool.not h) | (refine ⟨h, True.intro⟩) | (refine ⟨congrArg Bool.not h, True.intro⟩) | (refine ⟨by assumption, True.intro⟩)) | (intro h; exact (Bool.false_ne_true (h.symm.trans (by assumption))).elim) | (intro h; exact (Bool.false_ne_true (Eq.trans (Eq.symm (by assumption)) h)).elim) | (intros; simp_all; done) | (intros; exfalso; simp_all; done) | (refine gand ?_ h; assumption) | (simp only [se_map, se_byL]; exact rfl) | (simp only [se_map, se_byL, se_len, se_ch, List.length_map]; done) | fail
        · replace b17 := condF hc b17
          conv => whnf
          repeat' first | with_reducible rfl | with_reducible exact True.intro | with_reducible assumption | refine parkI ?_ | (refine W.drawn TT_ok hmix1 rfl ?_; conv => whnf) | exact (congrArg Bool.not h) | exact fun _ => True.intro | exact (rfl : (_ : Nat) = _) | exact (rfl : (_ : LV) = _) | exact NLss_map' _ | refine NLss_app ?_ ?_ | refine NLss_rep ?_ | refine NLss_set ?_ ?_ | refine NLss_take ?_ | refine NLss_drop ?_ | (refine And.intro ?_ ?_ <;> conv => whnf) | (intro h; (conv => whnf) <;> first | with_reducible rfl | assumption | exact h | exact (congrArg Bool.not h) | (refine ⟨h, True.intro⟩) | (refine ⟨congrArg Bool.not h, True.intro⟩) | (refine ⟨by assumption, True.intro⟩)) | (intro h; exact (Bool.false_ne_true (h.symm.trans (by assumption))).elim) | (intro h; exact (Bool.false_ne_true (Eq.trans (Eq.symm (by assumption)) h)).elim) | (intros; simp_all; done) | (intros; exfalso; simp_all; done) | (refine gand ?_ h; assumption) | (simp only [se_map, se_byL]; exact rfl) | (simp only [se_map, se_byL, se_len, se_ch, List.length_map]; done) | fail
          have e := Option.some.inj b17
          refine LoopW.norm [(1, (LV.ptr 0 0 0)), (3, (I ((k16 : Nat) : Int))), (4, (I (IntKind.i64.wrap (s17 + 1)))), (9, (I (((a0.Plans.map PlanT.cells).length : Nat) : Int))), (10, (I ((k16 : Nat) : Int)))] 1 [(0, (.row 47 3 [[(I a0.Segs), (LV.ro 2 (a0.Plans.map PlanT.cells)), (LV.ro 2 (a0.Hosts.map HostT.cells))]]))] ⟨rfl, rfl, rfl, rfl, rfl, trivial⟩ ⟨⟨rfl, rfl, (by repeat' first | exact True.intro | exact rfl | exact NLs_bels (by assumption) | refine ⟨?_, ?_⟩)⟩, trivial⟩ (by repeat' first | exact True.intro | exact rfl | exact NLs_bels (by assumption) | refine ⟨?_, ?_⟩) rfl (K17 _ e.symm)
      · replace b17 := condF hc b17
        conv => whnf
        have e := Option.some.inj b17
        replace e := hbrk17 _ e.symm
        rw [e] at r17
        dsimp only [aftM] at r17
        repeat' first | with_reducible rfl | with_reducible exact True.intro | with_reducible assumption | refine parkI ?_ | (refine W.drawn TT_ok hmix1 rfl ?_; conv => whnf) | exact (congrArg Bool.not h) | exact fun _ => True.intro | exact (rfl : (_ : Nat) = _) | exact (rfl : (_ : LV) = _) | exact NLss_map' _ | refine NLss_app ?_ ?_ | refine NLss_rep ?_ | refine NLss_set ?_ ?_ | refine NLss_take ?_ | refine NLss_drop ?_ | (refine And.intro ?_ ?_ <;> conv => whnf) | (intro h; (conv => whnf) <;> first | with_reducible rfl | assumption | exact h | exact (congrArg Bool.not h) | (refine ⟨h, True.intro⟩) | (refine ⟨congrArg Bool.not h, True.intro⟩) | (refine ⟨by assumption, True.intro⟩)) | (intro h; exact (Bool.false_ne_true (h.symm.trans (by assumption))).elim) | (intro h; exact (Bool.false_ne_true (Eq.trans (Eq.symm (by assumption)) h)).elim) | (intros; simp_all; done) | (intros; exfalso; simp_all; done) | (refine gand ?_ h; assumption) | (simp only [se_map, se_byL]; exact rfl) | (simp only [se_map, se_byL, se_len, se_ch, List.length_map]; done) | fail
        have e := Option.some.inj r17
        refine LoopW.norm [(1, (LV.ptr 0 0 0)), (9, (I (((a0.Plans.map PlanT.cells).length : Nat) : Int))), (10, (I ((k16 + 1 : Nat) : Int)))] 1 [(0, (.row 47 3 [[(I a0.Segs), (LV.ro 2 (a0.Plans.map PlanT.cells)), (LV.ro 2 (a0.Hosts.map HostT.cells))]]))] ⟨rfl, rfl, (congrArg (LV.int .i64) (w64_nat _ (by omega))), trivial⟩ ⟨⟨rfl, rfl, (by repeat' first | exact True.intro | exact rfl | exact NLs_bels (by assumption) | refine ⟨?_, ?_⟩)⟩, trivial⟩ (by repeat' first | exact True.intro | exact rfl | exact NLs_bels (by assumption) | refine ⟨?_, ?_⟩) rfl (K16 _ e.symm)
    · exact (Bool.false_ne_true (hc.symm.trans hd)).elim

def ref15_plan_b21 (a1 : Int) (k21 : Nat) (x21 : LinkT) (s21 : Unit) : Option (Step Bool Unit) :=
  (bif (bif (bif (bif (decide (x21.Seg < 0)) then true else (decide (a1 ≤ x21.Seg))) then true else (decide (x21.Cost < 1))) then true else (decide (1000 < x21.Cost))) then
    some (.ret false)
  else
    some (.nxt ()))

def ref15_plan (a0 : PlanT) (a1 : Int) : Option Bool :=
  aft (rangeL (ref15_plan_b21 a1) a0.Ports ()) fun s21 =>
  some (bif (bif (bif (decide (0 ≤ a0.ID)) then (decide (a0.ID ≤ 65535)) else false) then (decide (1 ≤ ((a0.Ports.length : Nat) : Int))) else false) then (decide (((a0.Ports.length : Nat) : Int) ≤ 8)) else false)

theorem c_ref15_plan (a0 : PlanT) (a1 : Int) (r : Bool) (h : ref15_plan a0 a1 = some r) : CallP Try.prog 159 [(LV.agg [(I a0.ID), (LV.ro 3 (a0.Ports.map LinkT.cells))]), (I a1)] (LV.bool r) := by
  unfold ref15_plan at h
  refine .intro (by repeat' first | exact True.intro | assumption | refine ⟨?_, ?_⟩) (.intro TT_ok Try.func159 rfl rfl [0, 1, 2, 4, 6, 8, 9, 10, 11, 32] rfl ?_)
  conv => whnf
  repeat' first | with_reducible rfl | with_reducible exact True.intro | with_reducible assumption | refine parkI ?_ | (refine And.intro ?_ ?_ <;> conv => whnf) | fail
  replace h := aftS h
  obtain ⟨O21, hO21, r21⟩ := h
  refine LoopW.norm [(1, (I a1)), (2, (LV.ptr 0 0 0)), (8, (LV.ro 3 (a0.Ports.map LinkT.cells))), (9, (I (((a0.Ports.map LinkT.cells).length : Nat) : Int))), (10, (I ((0 : Nat) : Int)))] 1 [(0, (.row 53 2 [[(I a0.ID), (LV.ro 3 (a0.Ports.map LinkT.cells))]]))] ⟨rfl, rfl, rfl, rfl, rfl, trivial⟩ ⟨⟨rfl, rfl, (by repeat' first | exact True.intro | exact rfl | exact NLs_bels (by assumption) | refine ⟨?_, ?_⟩)⟩, trivial⟩ (by repeat' first | exact True.intro | exact rfl | exact NLs_bels (by assumption) | refine ⟨?_, ?_⟩) rfl ?_
  refine LoopW.forR (fun k21 s21 => [(1, (I a1)), (2, (LV.ptr 0 0 0)), (8, (LV.ro 3 (a0.Ports.map LinkT.cells))), (9, (I (((a0.Ports.map LinkT.cells).length : Nat) : Int))), (10, (I ((k21 : Nat) : Int)))]) (fun s21 => ⟨1, [(0, (.row 53 2 [[(I a0.ID), (LV.ro 3 (a0.Ports.map LinkT.cells))]]))]⟩) hO21 (fun hl21 s21 hs21 => ?_) (fun hl21 k21 x21 s21 o21 hk21 hx21 b21 K21 hret21 hbrk21 => ?_)
  · rw [hs21] at r21
    dsimp only [aftM] at r21
    have hd : decide (((a0.Ports.length : Nat) : Int) < (((a0.Ports.map LinkT.cells).length : Nat) : Int)) = false := by rw [decide_eq_false_iff_not]; (try simp only [se_len, se_ch, List.length_map]); omega
    refine LoopW.round TT_ok [0, 1, 2, 4, 6, 8, 9, 10, 11, 32] ?_
    conv => whnf
    repeat' first | with_reducible rfl | with_reducible exact True.intro | with_reducible assumption | refine parkI ?_ | (refine And.intro ?_ ?_ <;> conv => whnf) | fail
    refine parkE (fun hc => ?_) (fun hc => ?_)
    · exact (Bool.false_ne_true (hd.symm.trans hc)).elim
    · clear hd
      conv => whnf
      have e := Option.some.inj r21
      subst e
      repeat' first | with_reducible rfl | with_reducible exact True.intro | with_reducible assumption | exact (congrArg Bool.not h) | exact fun _ => True.intro | exact (rfl : (_ : Nat) = _) | exact (rfl : (_ : LV) = _) | exact NLss_map' _ | refine NLss_app ?_ ?_ | refine NLss_rep ?_ | refine NLss_set ?_ ?_ | refine NLss_take ?_ | refine NLss_drop ?_ | (refine And.intro ?_ ?_ <;> conv => whnf) | (intro h; (conv => whnf) <;> first | with_reducible rfl | assumption | exact h | exact (congrArg Bool.not h) | (refine ⟨h, True.intro⟩) | (refine ⟨congrArg Bool.not h, True.intro⟩) | (refine ⟨by assumption, True.intro⟩)) | (intro h; exact (Bool.false_ne_true (h.symm.trans (by assumption))).elim) | (intro h; exact (Bool.false_ne_true (Eq.trans (Eq.symm (by assumption)) h)).elim) | (intros; simp_all; done) | (intros; exfalso; simp_all; done) | (refine gand ?_ h; assumption) | (simp only [se_map, se_byL]; exact rfl) | (simp only [se_map, se_byL, se_len, se_ch, List.length_map]; done) | fail
  · unfold ref15_plan_b21 at b21
    have hd : decide (((k21 : Nat) : Int) < (((a0.Ports.map LinkT.cells).length : Nat) : Int)) = true := by rw [decide_eq_true_eq]; (try simp only [se_len, se_ch, List.length_map] at hk21); (try simp only [se_len, se_ch, List.length_map]); omega
    refine LoopW.round TT_ok [0, 1, 2, 4, 6, 8, 9, 10, 11, 32] ?_
    conv => whnf
    repeat' first | with_reducible rfl | with_reducible exact True.intro | with_reducible assumption | refine parkI ?_ | (refine And.intro ?_ ?_ <;> conv => whnf) | fail
    refine parkE (fun hc => ?_) (fun hc => ?_)
    · clear hd
      conv => whnf
      repeat' first | with_reducible rfl | with_reducible exact True.intro | with_reducible assumption | refine parkI ?_ | (refine ⟨_, (kixF (f := LinkT.cells) hx21), ?_⟩; conv => whnf) | exact (congrArg Bool.not h) | exact fun _ => True.intro | (refine And.intro ?_ ?_ <;> conv => whnf) | (intro h; (conv => whnf) <;> first | with_reducible rfl | assumption | exact h | exact (congrArg Bool.not h) | (refine ⟨h, True.intro⟩) | (refine ⟨congrArg Bool.not h, True.intro⟩) | (refine ⟨by assumption, True.intro⟩)) | (intro h; exact (Bool.false_ne_true (h.symm.trans (by assumption))).elim) | (intro h; exact (Bool.false_ne_true (Eq.trans (Eq.symm (by assumption)) h)).elim) | (intros; simp_all; done) | (intros; exfalso; simp_all; done) | (refine gand ?_ h; assumption) | fail
      refine parkE (fun hc => ?_) (fun hc => ?_)
      · replace b21 := condT hc b21
        conv => whnf
        have e := Option.some.inj b21
        replace e := hret21 _ e.symm
        rw [e] at r21
        replace e := Option.some.inj r21
        subst e
        repeat' first | with_reducible rfl | with_reducible exact True.intro | with_reducible assumption | exact (congrArg Bool.not h) | exact fun _ => True.intro | exact (rfl : (_ : Nat) = _) | exact (rfl : (_ : LV) = _) | exact NLss_map' _ | refine NLss_app ?_ ?_ | refine NLss_rep ?_ | refine NLss_set ?_ ?_ | refine NLss_take ?_ | refine NLss_drop ?_ | (refine And.intro ?_ ?_ <;> conv => whnf) | (intro h; (conv => whnf) <;> first | with_reducible rfl | assumption | exact h | exact (congrArg Bool.not h) | (refine ⟨h, True.intro⟩) | (refine ⟨congrArg Bool.not h, True.intro⟩) | (refine ⟨by assumption, True.intro⟩)) | (intro h; exact (Bool.false_ne_true (h.symm.trans (by assumption))).elim) | (intro h; exact (Bool.false_ne_true (Eq.trans (Eq.symm (by assumption)) h)).elim) | (intros; simp_all; done) | (intros; exfalso; simp_all; done) | (refine gand ?_ h; assumption) | (simp only [se_map, se_byL]; exact rfl) | (simp only [se_map, se_byL, se_len, se_ch, List.length_map]; done) | fail
      · replace b21 := condF hc b21
        conv => whnf
        repeat' first | with_reducible rfl | with_reducible exact True.intro | with_reducible assumption | refine parkI ?_ | (refine And.intro ?_ ?_ <;> conv => whnf) | fail
        have e := Option.some.inj b21
        refine LoopW.norm [(1, (I a1)), (2, (LV.ptr 0 0 0)), (8, (LV.ro 3 (a0.Ports.map LinkT.cells))), (9, (I (((a0.Ports.map LinkT.cells).length : Nat) : Int))), (10, (I ((k21 + 1 : Nat) : Int)))] 1 [(0, (.row 53 2 [[(I a0.ID), (LV.ro 3 (a0.Ports.map LinkT.cells))]]))] ⟨rfl, rfl, rfl, rfl, (congrArg (LV.int .i64) (w64_nat _ (by omega))), trivial⟩ ⟨⟨rfl, rfl, (by repeat' first | exact True.intro | exact rfl | exact NLs_bels (by assumption) | refine ⟨?_, ?_⟩)⟩, trivial⟩ (by repeat' first | exact True.intro | exact rfl | exact NLs_bels (by assumption) | refine ⟨?_, ?_⟩) rfl (K21 _ e.symm)
    · exact (Bool.false_ne_true (hc.symm.trans hd)).elim

def ref01_Right (a0 : Int) : Option Bool :=
  some (bif (decide (0 ≤ a0)) then (decide (a0 < 281474976710656)) else false)

theorem c_ref01_Right (a0 : Int) (r : Bool) (h : ref01_Right a0 = some r) : CallP Try.prog 146 [(I a0)] (LV.bool r) := by
  unfold ref01_Right at h
  refine .intro (by repeat' first | exact True.intro | assumption | refine ⟨?_, ?_⟩) (.intro TT_ok Try.func146 rfl rfl [0, 2] rfl ?_)
  conv => whnf
  have e := Option.some.inj h
  subst e
  repeat' first | with_reducible rfl | with_reducible exact True.intro | with_reducible assumption | exact (congrArg Bool.not h) | exact fun _ => True.intro | exact (rfl : (_ : Nat) = _) | exact (rfl : (_ : LV) = _) | exact NLss_map' _ | refine NLss_app ?_ ?_ | refine NLss_rep ?_ | refine NLss_set ?_ ?_ | refine NLss_take ?_ | refine NLss_drop ?_ | (refine And.intro ?_ ?_ <;> conv => whnf) | (intro h; (conv => whnf) <;> first | with_reducible rfl | assumption | exact h | exact (congrArg Bool.not h) | (refine ⟨h, True.intro⟩) | (refine ⟨congrArg Bool.not h, True.intro⟩) | (refine ⟨by assumption, True.intro⟩)) | (intro h; exact (Bool.false_ne_true (h.symm.trans (by assumption))).elim) | (intro h; exact (Bool.false_ne_true (Eq.trans (Eq.symm (by assumption)) h)).elim) | (intros; simp_all; done) | (intros; exfalso; simp_all; done) | (refine gand ?_ h; assumption) | (simp only [se_map, se_byL]; exact rfl) | (simp only [se_map, se_byL, se_len, se_ch, List.length_map]; done) | fail

def ref01_Class (a0 : Int) : Option Int :=
  (bif (decide ((IntKind.i64.wrap ((a0).tdiv 16)) = 103282638848)) then
    some 2
  else
    (bif (decide ((((IntKind.i64.wrap ((a0).tdiv 1099511627776))).tmod 2) = 1)) then
      some 1
    else
      some 0))

theorem c_ref01_Class (a0 : Int) (r : Int) (h : ref01_Class a0 = some r) : CallP Try.prog 147 [(I a0)] (I r) := by
  unfold ref01_Class at h
  refine .intro (by repeat' first | exact True.intro | assumption | refine ⟨?_, ?_⟩) (.intro TT_ok Try.func147 rfl rfl [0, 2, 5, 9] rfl ?_)
  conv => whnf
  repeat' first | with_reducible rfl | with_reducible exact True.intro | with_reducible assumption | refine parkI ?_ | exact (by decide : ((16 : Int) ≠ 0)) | (refine And.intro ?_ ?_ <;> conv => whnf) | fail
  refine parkE (fun hc => ?_) (fun hc => ?_)
  · replace h := condT hc h
    conv => whnf
    have e := Option.some.inj h
    subst e
    repeat' first | with_reducible rfl | with_reducible exact True.intro | with_reducible assumption | exact (congrArg Bool.not h) | exact fun _ => True.intro | exact (rfl : (_ : Nat) = _) | exact (rfl : (_ : LV) = _) | exact NLss_map' _ | refine NLss_app ?_ ?_ | refine NLss_rep ?_ | refine NLss_set ?_ ?_ | refine NLss_take ?_ | refine NLss_drop ?_ | (refine And.intro ?_ ?_ <;> conv => whnf) | (intro h; (conv => whnf) <;> first | with_reducible rfl | assumption | exact h | exact (congrArg Bool.not h) | (refine ⟨h, True.intro⟩) | (refine ⟨congrArg Bool.not h, True.intro⟩) | (refine ⟨by assumption, True.intro⟩)) | (intro h; exact (Bool.false_ne_true (h.symm.trans (by assumption))).elim) | (intro h; exact (Bool.false_ne_true (Eq.trans (Eq.symm (by assumption)) h)).elim) | (intros; simp_all; done) | (intros; exfalso; simp_all; done) | (refine gand ?_ h; assumption) | (simp only [se_map, se_byL]; exact rfl) | (simp only [se_map, se_byL, se_len, se_ch, List.length_map]; done) | fail
  · replace h := condF hc h
    conv => whnf
    repeat' first | with_reducible rfl | with_reducible exact True.intro | with_reducible assumption | refine parkI ?_ | exact (by decide : ((1099511627776 : Int) ≠ 0)) | exact (by decide : ((2 : Int) ≠ 0)) | (refine And.intro ?_ ?_ <;> conv => whnf) | fail
    refine parkE (fun hc => ?_) (fun hc => ?_)
    · replace h := condT hc h
      conv => whnf
      have e := Option.some.inj h
      subst e
      repeat' first | with_reducible rfl | with_reducible exact True.intro | with_reducible assumption | exact (congrArg Bool.not h) | exact fun _ => True.intro | exact (rfl : (_ : Nat) = _) | exact (rfl : (_ : LV) = _) | exact NLss_map' _ | refine NLss_app ?_ ?_ | refine NLss_rep ?_ | refine NLss_set ?_ ?_ | refine NLss_take ?_ | refine NLss_drop ?_ | (refine And.intro ?_ ?_ <;> conv => whnf) | (intro h; (conv => whnf) <;> first | with_reducible rfl | assumption | exact h | exact (congrArg Bool.not h) | (refine ⟨h, True.intro⟩) | (refine ⟨congrArg Bool.not h, True.intro⟩) | (refine ⟨by assumption, True.intro⟩)) | (intro h; exact (Bool.false_ne_true (h.symm.trans (by assumption))).elim) | (intro h; exact (Bool.false_ne_true (Eq.trans (Eq.symm (by assumption)) h)).elim) | (intros; simp_all; done) | (intros; exfalso; simp_all; done) | (refine gand ?_ h; assumption) | (simp only [se_map, se_byL]; exact rfl) | (simp only [se_map, se_byL, se_len, se_ch, List.length_map]; done) | fail
    · replace h := condF hc h
      conv => whnf
      have e := Option.some.inj h
      subst e
      repeat' first | with_reducible rfl | with_reducible exact True.intro | with_reducible assumption | exact (congrArg Bool.not h) | exact fun _ => True.intro | exact (rfl : (_ : Nat) = _) | exact (rfl : (_ : LV) = _) | exact NLss_map' _ | refine NLss_app ?_ ?_ | refine NLss_rep ?_ | refine NLss_set ?_ ?_ | refine NLss_take ?_ | refine NLss_drop ?_ | (refine And.intro ?_ ?_ <;> conv => whnf) | (intro h; (conv => whnf) <;> first | with_reducible rfl | assumption | exact h | exact (congrArg Bool.not h) | (refine ⟨h, True.intro⟩) | (refine ⟨congrArg Bool.not h, True.intro⟩) | (refine ⟨by assumption, True.intro⟩)) | (intro h; exact (Bool.false_ne_true (h.symm.trans (by assumption))).elim) | (intro h; exact (Bool.false_ne_true (Eq.trans (Eq.symm (by assumption)) h)).elim) | (intros; simp_all; done) | (intros; exfalso; simp_all; done) | (refine gand ?_ h; assumption) | (simp only [se_map, se_byL]; exact rfl) | (simp only [se_map, se_byL, se_len, se_ch, List.length_map]; done) | fail

def ref08_Mac (a0 : Int) : Option Bool :=
  (ref01_Right a0).bind fun y9 =>
  (gd y9 (ref01_Class a0)).bind fun y11 =>
  some (bif y9 then (decide (y11 = 0)) else false)

theorem c_ref08_Mac (a0 : Int) (r : Bool) (h : ref08_Mac a0 = some r) : CallP Try.prog 35 [(I a0)] (LV.bool r) := by
  unfold ref08_Mac at h
  refine .intro (by repeat' first | exact True.intro | assumption | refine ⟨?_, ?_⟩) (.intro TT_ok Try.func35 rfl rfl [0, 2] rfl ?_)
  conv => whnf
  replace h := bindS h
  obtain ⟨y9, hy9, h⟩ := h
  have c10 := c_ref01_Right a0 _ hy9
  replace h := bindS h
  obtain ⟨y11, hy11, h⟩ := h
  have c12 := fun (hg : y9 = true) => c_ref01_Class a0 _ (gdS hg hy11)
  have e := Option.some.inj h
  subst e
  repeat' first | with_reducible rfl | with_reducible exact True.intro | with_reducible assumption | (refine ⟨_, c12, ?_⟩; conv => whnf) | (refine CallP.use c10 ?_; conv => whnf) | exact (congrArg Bool.not h) | exact fun _ => True.intro | exact (rfl : (_ : Nat) = _) | exact (rfl : (_ : LV) = _) | exact NLss_map' _ | refine NLss_app ?_ ?_ | refine NLss_rep ?_ | refine NLss_set ?_ ?_ | refine NLss_take ?_ | refine NLss_drop ?_ | (refine And.intro ?_ ?_ <;> conv => whnf) | (intro h; (conv => whnf) <;> first | with_reducible rfl | assumption | exact h | exact (congrArg Bool.not h) | (refine ⟨h, True.intro⟩) | (refine ⟨congrArg Bool.not h, True.intro⟩) | (refine ⟨by assumption, True.intro⟩)) | (intro h; exact (Bool.false_ne_true (h.symm.trans (by assumption))).elim) | (intro h; exact (Bool.false_ne_true (Eq.trans (Eq.symm (by assumption)) h)).elim) | (intros; simp_all; done) | (intros; exfalso; simp_all; done) | (refine gand ?_ h; assumption) | (simp only [se_map, se_byL]; exact rfl) | (simp only [se_map, se_byL, se_len, se_ch, List.length_map]; done) | fail

def ref15_Right_b20 (a0 : LanT) (k20 : Nat) (x20 : PlanT) (s20 : Unit) : Option (Step Bool Unit) :=
  (ref15_plan x20 a0.Segs).bind fun y7 =>
  (bif (!y7) then
    some (.ret false)
  else
    some (.nxt ()))

def ref15_Right_b22 (a0 : LanT) (k22 : Nat) (x22 : HostT) (s22 : Unit) : Option (Step Bool Unit) :=
  (ref08_Mac x22.Mac).bind fun y13 =>
  (bif (bif (bif (!y13) then true else (decide (x22.Seg < 0))) then true else (decide (a0.Segs ≤ x22.Seg))) then
    some (.ret false)
  else
    some (.nxt ()))

def ref15_Right (a0 : LanT) : Option Bool :=
  (gd (!(bif (bif (bif (decide (a0.Segs < 1)) then true else (decide (8 < a0.Segs))) then true else (decide (6 < ((a0.Plans.length : Nat) : Int)))) then true else (decide (8 < ((a0.Hosts.length : Nat) : Int))))) (ref15_twice a0)).bind fun y5 =>
  (bif (bif (bif (bif (bif (decide (a0.Segs < 1)) then true else (decide (8 < a0.Segs))) then true else (decide (6 < ((a0.Plans.length : Nat) : Int)))) then true else (decide (8 < ((a0.Hosts.length : Nat) : Int)))) then true else y5) then
    some false
  else
    aft (rangeL (ref15_Right_b20 a0) a0.Plans ()) fun s20 =>
    aft (rangeL (ref15_Right_b22 a0) a0.Hosts ()) fun s22 =>
    some true)

theorem c_ref15_Right (a0 : LanT) (r : Bool) (h : ref15_Right a0 = some r) : CallP Try.prog 48 [(LV.agg [(I a0.Segs), (LV.ro 2 (a0.Plans.map PlanT.cells)), (LV.ro 2 (a0.Hosts.map HostT.cells))])] (LV.bool r) := by
  unfold ref15_Right at h
  refine .intro (by repeat' first | exact True.intro | assumption | refine ⟨?_, ?_⟩) (.intro TT_ok Try.func48 rfl rfl [0, 1, 2, 4, 6, 30, 32, 33, 34, 35, 42, 45, 46, 47, 48, 66] rfl ?_)
  conv => whnf
  replace h := bindS h
  obtain ⟨y5, hy5, h⟩ := h
  have c6 := fun (hg : (!(bif (bif (bif (decide (a0.Segs < 1)) then true else (decide (8 < a0.Segs))) then true else (decide (6 < (((a0.Plans.map PlanT.cells).length : Nat) : Int)))) then true else (decide (8 < (((a0.Hosts.map HostT.cells).length : Nat) : Int))))) = true) => c_ref15_twice a0 _ (gdS (show (!(bif (bif (bif (decide (a0.Segs < 1)) then true else (decide (8 < a0.Segs))) then true else (decide (6 < ((a0.Plans.length : Nat) : Int)))) then true else (decide (8 < ((a0.Hosts.length : Nat) : Int))))) = true by simpa only [se_len, se_ch, List.length_map] using hg) hy5)
  repeat' first | with_reducible rfl | with_reducible exact True.intro | with_reducible assumption | refine parkI ?_ | (refine ⟨_, c6, ?_⟩; conv => whnf) | exact (congrArg Bool.not h) | exact fun _ => True.intro | (refine And.intro ?_ ?_ <;> conv => whnf) | (intro h; (conv => whnf) <;> first | with_reducible rfl | assumption | exact h | exact (congrArg Bool.not h) | (refine ⟨h, True.intro⟩) | (refine ⟨congrArg Bool.not h, True.intro⟩) | (refine ⟨by assumption, True.intro⟩)) | (intro h; exact (Bool.false_ne_true (h.symm.trans (by assumption))).elim) | (intro h; exact (Bool.false_ne_true (Eq.trans (Eq.symm (by assumption)) h)).elim) | (intros; simp_all; done) | (intros; exfalso; simp_all; done) | (refine gand ?_ h; assumption) | fail
  refine parkE (fun hc => ?_) (fun hc => ?_)
  · replace h := condT (by first | exact hc | simpa only [se_len, se_ch, List.length_map] using hc) h
    conv => whnf
    have e := Option.some.inj h
    subst e
    repeat' first | with_reducible rfl | with_reducible exact True.intro | with_reducible assumption | exact (congrArg Bool.not h) | exact fun _ => True.intro | exact (rfl : (_ : Nat) = _) | exact (rfl : (_ : LV) = _) | exact NLss_map' _ | refine NLss_app ?_ ?_ | refine NLss_rep ?_ | refine NLss_set ?_ ?_ | refine NLss_take ?_ | refine NLss_drop ?_ | (refine And.intro ?_ ?_ <;> conv => whnf) | (intro h; (conv => whnf) <;> first | with_reducible rfl | assumption | exact h | exact (congrArg Bool.not h) | (refine ⟨h, True.intro⟩) | (refine ⟨congrArg Bool.not h, True.intro⟩) | (refine ⟨by assumption, True.intro⟩)) | (intro h; exact (Bool.false_ne_true (h.symm.trans (by assumption))).elim) | (intro h; exact (Bool.false_ne_true (Eq.trans (Eq.symm (by assumption)) h)).elim) | (intros; simp_all; done) | (intros; exfalso; simp_all; done) | (refine gand ?_ h; assumption) | (simp only [se_map, se_byL]; exact rfl) | (simp only [se_map, se_byL, se_len, se_ch, List.length_map]; done) | fail
  · replace h := condF (by first | exact hc | simpa only [se_len, se_ch, List.length_map] using hc) h
    conv => whnf
    repeat' first | with_reducible rfl | with_reducible exact True.intro | with_reducible assumption | refine parkI ?_ | (refine And.intro ?_ ?_ <;> conv => whnf) | fail
    replace h := aftS h
    obtain ⟨O20, hO20, r20⟩ := h
    refine LoopW.norm [(1, (LV.ptr 0 0 0)), (32, (LV.ro 2 (a0.Plans.map PlanT.cells))), (33, (I (((a0.Plans.map PlanT.cells).length : Nat) : Int))), (34, (I ((0 : Nat) : Int)))] 1 [(0, (.row 47 3 [[(I a0.Segs), (LV.ro 2 (a0.Plans.map PlanT.cells)), (LV.ro 2 (a0.Hosts.map HostT.cells))]]))] ⟨rfl, rfl, rfl, rfl, trivial⟩ ⟨⟨rfl, rfl, (by repeat' first | exact True.intro | exact rfl | exact NLs_bels (by assumption) | refine ⟨?_, ?_⟩)⟩, trivial⟩ (by repeat' first | exact True.intro | exact rfl | exact NLs_bels (by assumption) | refine ⟨?_, ?_⟩) rfl ?_
    refine LoopW.forR (fun k20 s20 => [(1, (LV.ptr 0 0 0)), (32, (LV.ro 2 (a0.Plans.map PlanT.cells))), (33, (I (((a0.Plans.map PlanT.cells).length : Nat) : Int))), (34, (I ((k20 : Nat) : Int)))]) (fun s20 => ⟨1, [(0, (.row 47 3 [[(I a0.Segs), (LV.ro 2 (a0.Plans.map PlanT.cells)), (LV.ro 2 (a0.Hosts.map HostT.cells))]]))]⟩) hO20 (fun hl20 s20 hs20 => ?_) (fun hl20 k20 x20 s20 o20 hk20 hx20 b20 K20 hret20 hbrk20 => ?_)
    · rw [hs20] at r20
      dsimp only [aftM] at r20
      have hd : decide (((a0.Plans.length : Nat) : Int) < (((a0.Plans.map PlanT.cells).length : Nat) : Int)) = false := by rw [decide_eq_false_iff_not]; (try simp only [se_len, se_ch, List.length_map]); omega
      refine LoopW.round TT_ok [0, 1, 2, 4, 6, 30, 32, 33, 34, 35, 42, 45, 46, 47, 48, 66] ?_
      conv => whnf
      repeat' first | with_reducible rfl | with_reducible exact True.intro | with_reducible assumption | refine parkI ?_ | (refine And.intro ?_ ?_ <;> conv => whnf) | fail
      refine parkE (fun hc => ?_) (fun hc => ?_)
      · exact (Bool.false_ne_true (hd.symm.trans hc)).elim
      · clear hd
        conv => whnf
        repeat' first | with_reducible rfl | with_reducible exact True.intro | with_reducible assumption | refine parkI ?_ | (refine And.intro ?_ ?_ <;> conv => whnf) | fail
        replace r20 := aftS r20
        obtain ⟨O22, hO22, r22⟩ := r20
        refine LoopW.norm [(1, (LV.ptr 0 0 0)), (45, (LV.ro 2 (a0.Hosts.map HostT.cells))), (46, (I (((a0.Hosts.map HostT.cells).length : Nat) : Int))), (47, (I ((0 : Nat) : Int)))] 1 [(0, (.row 47 3 [[(I a0.Segs), (LV.ro 2 (a0.Plans.map PlanT.cells)), (LV.ro 2 (a0.Hosts.map HostT.cells))]]))] ⟨rfl, rfl, rfl, rfl, trivial⟩ ⟨⟨rfl, rfl, (by repeat' first | exact True.intro | exact rfl | exact NLs_bels (by assumption) | refine ⟨?_, ?_⟩)⟩, trivial⟩ (by repeat' first | exact True.intro | exact rfl | exact NLs_bels (by assumption) | refine ⟨?_, ?_⟩) rfl ?_
        refine LoopW.forR (fun k22 s22 => [(1, (LV.ptr 0 0 0)), (45, (LV.ro 2 (a0.Hosts.map HostT.cells))), (46, (I (((a0.Hosts.map HostT.cells).length : Nat) : Int))), (47, (I ((k22 : Nat) : Int)))]) (fun s22 => ⟨1, [(0, (.row 47 3 [[(I a0.Segs), (LV.ro 2 (a0.Plans.map PlanT.cells)), (LV.ro 2 (a0.Hosts.map HostT.cells))]]))]⟩) hO22 (fun hl22 s22 hs22 => ?_) (fun hl22 k22 x22 s22 o22 hk22 hx22 b22 K22 hret22 hbrk22 => ?_)
        · rw [hs22] at r22
          dsimp only [aftM] at r22
          have hd : decide (((a0.Hosts.length : Nat) : Int) < (((a0.Hosts.map HostT.cells).length : Nat) : Int)) = false := by rw [decide_eq_false_iff_not]; (try simp only [se_len, se_ch, List.length_map]); omega
          refine LoopW.round TT_ok [0, 1, 2, 4, 6, 30, 32, 33, 34, 35, 42, 45, 46, 47, 48, 66] ?_
          conv => whnf
          repeat' first | with_reducible rfl | with_reducible exact True.intro | with_reducible assumption | refine parkI ?_ | (refine And.intro ?_ ?_ <;> conv => whnf) | fail
          refine parkE (fun hc => ?_) (fun hc => ?_)
          · exact (Bool.false_ne_true (hd.symm.trans hc)).elim
          · clear hd
            conv => whnf
            have e := Option.some.inj r22
            subst e
            repeat' first | with_reducible rfl | with_reducible exact True.intro | with_reducible assumption | exact (congrArg Bool.not h) | exact fun _ => True.intro | exact (rfl : (_ : Nat) = _) | exact (rfl : (_ : LV) = _) | exact NLss_map' _ | refine NLss_app ?_ ?_ | refine NLss_rep ?_ | refine NLss_set ?_ ?_ | refine NLss_take ?_ | refine NLss_drop ?_ | (refine And.intro ?_ ?_ <;> conv => whnf) | (intro h; (conv => whnf) <;> first | with_reducible rfl | assumption | exact h | exact (congrArg Bool.not h) | (refine ⟨h, True.intro⟩) | (refine ⟨congrArg Bool.not h, True.intro⟩) | (refine ⟨by assumption, True.intro⟩)) | (intro h; exact (Bool.false_ne_true (h.symm.trans (by assumption))).elim) | (intro h; exact (Bool.false_ne_true (Eq.trans (Eq.symm (by assumption)) h)).elim) | (intros; simp_all; done) | (intros; exfalso; simp_all; done) | (refine gand ?_ h; assumption) | (simp only [se_map, se_byL]; exact rfl) | (simp only [se_map, se_byL, se_len, se_ch, List.length_map]; done) | fail
        · unfold ref15_Right_b22 at b22
          have hd : decide (((k22 : Nat) : Int) < (((a0.Hosts.map HostT.cells).length : Nat) : Int)) = true := by rw [decide_eq_true_eq]; (try simp only [se_len, se_ch, List.length_map] at hk22); (try simp only [se_len, se_ch, List.length_map]); omega
          refine LoopW.round TT_ok [0, 1, 2, 4, 6, 30, 32, 33, 34, 35, 42, 45, 46, 47, 48, 66] ?_
          conv => whnf
          repeat' first | with_reducible rfl | with_reducible exact True.intro | with_reducible assumption | refine parkI ?_ | (refine And.intro ?_ ?_ <;> conv => whnf) | fail
          refine parkE (fun hc => ?_) (fun hc => ?_)
          · clear hd
            conv => whnf
            replace b22 := bindS b22
            obtain ⟨y13, hy13, b22⟩ := b22
            have c14 := c_ref08_Mac x22.Mac _ hy13
            repeat' first | with_reducible rfl | with_reducible exact True.intro | with_reducible assumption | refine parkI ?_ | (refine ⟨_, (kixF (f := HostT.cells) hx22), ?_⟩; conv => whnf) | (refine CallP.use c14 ?_; conv => whnf) | exact (congrArg Bool.not h) | exact fun _ => True.intro | (refine And.intro ?_ ?_ <;> conv => whnf) | (intro h; (conv => whnf) <;> first | with_reducible rfl | assumption | exact h | exact (congrArg Bool.not h) | (refine ⟨h, True.intro⟩) | (refine ⟨congrArg Bool.not h, True.intro⟩) | (refine ⟨by assumption, True.intro⟩)) | (intro h; exact (Bool.false_ne_true (h.symm.trans (by assumption))).elim) | (intro h; exact (Bool.false_ne_true (Eq.trans (Eq.symm (by assumption)) h)).elim) | (intros; simp_all; done) | (intros; exfalso; simp_all; done) | (refine gand ?_ h; assumption) | fail
            refine parkE (fun hc => ?_) (fun hc => ?_)
            · replace b22 := condT hc b22
              conv => whnf
              have e := Option.some.inj b22
              replace e := hret22 _ e.symm
              rw [e] at r22
              replace e := Option.some.inj r22
              subst e
              repeat' first | with_reducible rfl | with_reducible exact True.intro | with_reducible assumption | exact (congrArg Bool.not h) | exact fun _ => True.intro | exact (rfl : (_ : Nat) = _) | exact (rfl : (_ : LV) = _) | exact NLss_map' _ | refine NLss_app ?_ ?_ | refine NLss_rep ?_ | refine NLss_set ?_ ?_ | refine NLss_take ?_ | refine NLss_drop ?_ | (refine And.intro ?_ ?_ <;> conv => whnf) | (intro h; (conv => whnf) <;> first | with_reducible rfl | assumption | exact h | exact (congrArg Bool.not h) | (refine ⟨h, True.intro⟩) | (refine ⟨congrArg Bool.not h, True.intro⟩) | (refine ⟨by assumption, True.intro⟩)) | (intro h; exact (Bool.false_ne_true (h.symm.trans (by assumption))).elim) | (intro h; exact (Bool.false_ne_true (Eq.trans (Eq.symm (by assumption)) h)).elim) | (intros; simp_all; done) | (intros; exfalso; simp_all; done) | (refine gand ?_ h; assumption) | (simp only [se_map, se_byL]; exact rfl) | (simp only [se_map, se_byL, se_len, se_ch, List.length_map]; done) | fail
            · replace b22 := condF hc b22
              conv => whnf
              repeat' first | with_reducible rfl | with_reducible exact True.intro | with_reducible assumption | refine parkI ?_ | (refine And.intro ?_ ?_ <;> conv => whnf) | fail
              have e := Option.some.inj b22
              refine LoopW.norm [(1, (LV.ptr 0 0 0)), (45, (LV.ro 2 (a0.Hosts.map HostT.cells))), (46, (I (((a0.Hosts.map HostT.cells).length : Nat) : Int))), (47, (I ((k22 + 1 : Nat) : Int)))] 1 [(0, (.row 47 3 [[(I a0.Segs), (LV.ro 2 (a0.Plans.map PlanT.cells)), (LV.ro 2 (a0.Hosts.map HostT.cells))]]))] ⟨rfl, rfl, rfl, (congrArg (LV.int .i64) (w64_nat _ (by omega))), trivial⟩ ⟨⟨rfl, rfl, (by repeat' first | exact True.intro | exact rfl | exact NLs_bels (by assumption) | refine ⟨?_, ?_⟩)⟩, trivial⟩ (by repeat' first | exact True.intro | exact rfl | exact NLs_bels (by assumption) | refine ⟨?_, ?_⟩) rfl (K22 _ e.symm)
          · exact (Bool.false_ne_true (hc.symm.trans hd)).elim
    · unfold ref15_Right_b20 at b20
      have hd : decide (((k20 : Nat) : Int) < (((a0.Plans.map PlanT.cells).length : Nat) : Int)) = true := by rw [decide_eq_true_eq]; (try simp only [se_len, se_ch, List.length_map] at hk20); (try simp only [se_len, se_ch, List.length_map]); omega
      refine LoopW.round TT_ok [0, 1, 2, 4, 6, 30, 32, 33, 34, 35, 42, 45, 46, 47, 48, 66] ?_
      conv => whnf
      repeat' first | with_reducible rfl | with_reducible exact True.intro | with_reducible assumption | refine parkI ?_ | (refine And.intro ?_ ?_ <;> conv => whnf) | fail
      refine parkE (fun hc => ?_) (fun hc => ?_)
      · clear hd
        conv => whnf
        replace b20 := bindS b20
        obtain ⟨y7, hy7, b20⟩ := b20
        have c8 := c_ref15_plan x20 a0.Segs _ hy7
        repeat' first | with_reducible rfl | with_reducible exact True.intro | with_reducible assumption | refine parkI ?_ | (refine ⟨_, (kixF (f := PlanT.cells) hx20), ?_⟩; conv => whnf) | (refine CallP.use c8 ?_; conv => whnf) | (refine And.intro ?_ ?_ <;> conv => whnf) | fail
        refine parkE (fun hc => ?_) (fun hc => ?_)
        · replace b20 := condT hc b20
          conv => whnf
          have e := Option.some.inj b20
          replace e := hret20 _ e.symm
          rw [e] at r20
          replace e := Option.some.inj r20
          subst e
          repeat' first | with_reducible rfl | with_reducible exact True.intro | with_reducible assumption | exact (congrArg Bool.not h) | exact fun _ => True.intro | exact (rfl : (_ : Nat) = _) | exact (rfl : (_ : LV) = _) | exact NLss_map' _ | refine NLss_app ?_ ?_ | refine NLss_rep ?_ | refine NLss_set ?_ ?_ | refine NLss_take ?_ | refine NLss_drop ?_ | (refine And.intro ?_ ?_ <;> conv => whnf) | (intro h; (conv => whnf) <;> first | with_reducible rfl | assumption | exact h | exact (congrArg Bool.not h) | (refine ⟨h, True.intro⟩) | (refine ⟨congrArg Bool.not h, True.intro⟩) | (refine ⟨by assumption, True.intro⟩)) | (intro h; exact (Bool.false_ne_true (h.symm.trans (by assumption))).elim) | (intro h; exact (Bool.false_ne_true (Eq.trans (Eq.symm (by assumption)) h)).elim) | (intros; simp_all; done) | (intros; exfalso; simp_all; done) | (refine gand ?_ h; assumption) | (simp only [se_map, se_byL]; exact rfl) | (simp only [se_map, se_byL, se_len, se_ch, List.length_map]; done) | fail
        · replace b20 := condF hc b20
          conv => whnf
          repeat' first | with_reducible rfl | with_reducible exact True.intro | with_reducible assumption | refine parkI ?_ | (refine And.intro ?_ ?_ <;> conv => whnf) | fail
          have e := Option.some.inj b20
          refine LoopW.norm [(1, (LV.ptr 0 0 0)), (32, (LV.ro 2 (a0.Plans.map PlanT.cells))), (33, (I (((a0.Plans.map PlanT.cells).length : Nat) : Int))), (34, (I ((k20 + 1 : Nat) : Int)))] 1 [(0, (.row 47 3 [[(I a0.Segs), (LV.ro 2 (a0.Plans.map PlanT.cells)), (LV.ro 2 (a0.Hosts.map HostT.cells))]]))] ⟨rfl, rfl, rfl, (congrArg (LV.int .i64) (w64_nat _ (by omega))), trivial⟩ ⟨⟨rfl, rfl, (by repeat' first | exact True.intro | exact rfl | exact NLs_bels (by assumption) | refine ⟨?_, ?_⟩)⟩, trivial⟩ (by repeat' first | exact True.intro | exact rfl | exact NLs_bels (by assumption) | refine ⟨?_, ?_⟩) rfl (K20 _ e.symm)
      · exact (Bool.false_ne_true (hc.symm.trans hd)).elim

def ref15_joins_b28 (a1 : Int) (k28 : Nat) (x28 : LinkT) (s28 : Unit) : Option (Step Bool Unit) :=
  (bif (bif x28.Up then (decide (x28.Seg = a1)) else false) then
    some (.ret true)
  else
    some (.nxt ()))

def ref15_joins (a0 : PlanT) (a1 : Int) : Option Bool :=
  aft (rangeL (ref15_joins_b28 a1) a0.Ports ()) fun s28 =>
  some false

theorem c_ref15_joins (a0 : PlanT) (a1 : Int) (r : Bool) (h : ref15_joins a0 a1 = some r) : CallP Try.prog 278 [(LV.agg [(I a0.ID), (LV.ro 3 (a0.Ports.map LinkT.cells))]), (I a1)] (LV.bool r) := by
  unfold ref15_joins at h
  refine .intro (by repeat' first | exact True.intro | assumption | refine ⟨?_, ?_⟩) (.intro TT_ok Try.func278 rfl rfl [0, 1, 2, 4, 6, 8, 9, 10, 11, 21] rfl ?_)
  conv => whnf
  repeat' first | with_reducible rfl | with_reducible exact True.intro | with_reducible assumption | refine parkI ?_ | (refine And.intro ?_ ?_ <;> conv => whnf) | fail
  replace h := aftS h
  obtain ⟨O28, hO28, r28⟩ := h
  refine LoopW.norm [(1, (I a1)), (8, (LV.ro 3 (a0.Ports.map LinkT.cells))), (9, (I (((a0.Ports.map LinkT.cells).length : Nat) : Int))), (10, (I ((0 : Nat) : Int)))] 0 [] ⟨rfl, rfl, rfl, rfl, trivial⟩ trivial (by repeat' first | exact True.intro | exact rfl | exact NLs_bels (by assumption) | refine ⟨?_, ?_⟩) rfl ?_
  refine LoopW.forR (fun k28 s28 => [(1, (I a1)), (8, (LV.ro 3 (a0.Ports.map LinkT.cells))), (9, (I (((a0.Ports.map LinkT.cells).length : Nat) : Int))), (10, (I ((k28 : Nat) : Int)))]) (fun s28 => ⟨0, []⟩) hO28 (fun hl28 s28 hs28 => ?_) (fun hl28 k28 x28 s28 o28 hk28 hx28 b28 K28 hret28 hbrk28 => ?_)
  · rw [hs28] at r28
    dsimp only [aftM] at r28
    have hd : decide (((a0.Ports.length : Nat) : Int) < (((a0.Ports.map LinkT.cells).length : Nat) : Int)) = false := by rw [decide_eq_false_iff_not]; (try simp only [se_len, se_ch, List.length_map]); omega
    refine LoopW.round TT_ok [0, 1, 2, 4, 6, 8, 9, 10, 11, 21] ?_
    conv => whnf
    repeat' first | with_reducible rfl | with_reducible exact True.intro | with_reducible assumption | refine parkI ?_ | (refine And.intro ?_ ?_ <;> conv => whnf) | fail
    refine parkE (fun hc => ?_) (fun hc => ?_)
    · exact (Bool.false_ne_true (hd.symm.trans hc)).elim
    · clear hd
      conv => whnf
      have e := Option.some.inj r28
      subst e
      repeat' first | with_reducible rfl | with_reducible exact True.intro | with_reducible assumption | exact (congrArg Bool.not h) | exact fun _ => True.intro | exact (rfl : (_ : Nat) = _) | exact (rfl : (_ : LV) = _) | exact NLss_map' _ | refine NLss_app ?_ ?_ | refine NLss_rep ?_ | refine NLss_set ?_ ?_ | refine NLss_take ?_ | refine NLss_drop ?_ | (refine And.intro ?_ ?_ <;> conv => whnf) | (intro h; (conv => whnf) <;> first | with_reducible rfl | assumption | exact h | exact (congrArg Bool.not h) | (refine ⟨h, True.intro⟩) | (refine ⟨congrArg Bool.not h, True.intro⟩) | (refine ⟨by assumption, True.intro⟩)) | (intro h; exact (Bool.false_ne_true (h.symm.trans (by assumption))).elim) | (intro h; exact (Bool.false_ne_true (Eq.trans (Eq.symm (by assumption)) h)).elim) | (intros; simp_all; done) | (intros; exfalso; simp_all; done) | (refine gand ?_ h; assumption) | (simp only [se_map, se_byL]; exact rfl) | (simp only [se_map, se_byL, se_len, se_ch, List.length_map]; done) | fail
  · unfold ref15_joins_b28 at b28
    have hd : decide (((k28 : Nat) : Int) < (((a0.Ports.map LinkT.cells).length : Nat) : Int)) = true := by rw [decide_eq_true_eq]; (try simp only [se_len, se_ch, List.length_map] at hk28); (try simp only [se_len, se_ch, List.length_map]); omega
    refine LoopW.round TT_ok [0, 1, 2, 4, 6, 8, 9, 10, 11, 21] ?_
    conv => whnf
    repeat' first | with_reducible rfl | with_reducible exact True.intro | with_reducible assumption | refine parkI ?_ | (refine And.intro ?_ ?_ <;> conv => whnf) | fail
    refine parkE (fun hc => ?_) (fun hc => ?_)
    · clear hd
      conv => whnf
      repeat' first | with_reducible rfl | with_reducible exact True.intro | with_reducible assumption | refine parkI ?_ | (refine ⟨_, (kixF (f := LinkT.cells) hx28), ?_⟩; conv => whnf) | exact (congrArg Bool.not h) | exact fun _ => True.intro | (refine And.intro ?_ ?_ <;> conv => whnf) | (intro h; (conv => whnf) <;> first | with_reducible rfl | assumption | exact h | exact (congrArg Bool.not h) | (refine ⟨h, True.intro⟩) | (refine ⟨congrArg Bool.not h, True.intro⟩) | (refine ⟨by assumption, True.intro⟩)) | (intro h; exact (Bool.false_ne_true (h.symm.trans (by assumption))).elim) | (intro h; exact (Bool.false_ne_true (Eq.trans (Eq.symm (by assumption)) h)).elim) | (intros; simp_all; done) | (intros; exfalso; simp_all; done) | (refine gand ?_ h; assumption) | fail
      refine parkE (fun hc => ?_) (fun hc => ?_)
      · replace b28 := condT hc b28
        conv => whnf
        have e := Option.some.inj b28
        replace e := hret28 _ e.symm
        rw [e] at r28
        replace e := Option.some.inj r28
        subst e
        repeat' first | with_reducible rfl | with_reducible exact True.intro | with_reducible assumption | exact (congrArg Bool.not h) | exact fun _ => True.intro | exact (rfl : (_ : Nat) = _) | exact (rfl : (_ : LV) = _) | exact NLss_map' _ | refine NLss_app ?_ ?_ | refine NLss_rep ?_ | refine NLss_set ?_ ?_ | refine NLss_take ?_ | refine NLss_drop ?_ | (refine And.intro ?_ ?_ <;> conv => whnf) | (intro h; (conv => whnf) <;> first | with_reducible rfl | assumption | exact h | exact (congrArg Bool.not h) | (refine ⟨h, True.intro⟩) | (refine ⟨congrArg Bool.not h, True.intro⟩) | (refine ⟨by assumption, True.intro⟩)) | (intro h; exact (Bool.false_ne_true (h.symm.trans (by assumption))).elim) | (intro h; exact (Bool.false_ne_true (Eq.trans (Eq.symm (by assumption)) h)).elim) | (intros; simp_all; done) | (intros; exfalso; simp_all; done) | (refine gand ?_ h; assumption) | (simp only [se_map, se_byL]; exact rfl) | (simp only [se_map, se_byL, se_len, se_ch, List.length_map]; done) | fail
      · replace b28 := condF hc b28
        conv => whnf
        repeat' first | with_reducible rfl | with_reducible exact True.intro | with_reducible assumption | refine parkI ?_ | (refine And.intro ?_ ?_ <;> conv => whnf) | fail
        have e := Option.some.inj b28
        refine LoopW.norm [(1, (I a1)), (8, (LV.ro 3 (a0.Ports.map LinkT.cells))), (9, (I (((a0.Ports.map LinkT.cells).length : Nat) : Int))), (10, (I ((k28 + 1 : Nat) : Int)))] 0 [] ⟨rfl, rfl, rfl, (congrArg (LV.int .i64) (w64_nat _ (by omega))), trivial⟩ trivial (by repeat' first | exact True.intro | exact rfl | exact NLs_bels (by assumption) | refine ⟨?_, ?_⟩) rfl (K28 _ e.symm)
    · exact (Bool.false_ne_true (hc.symm.trans hd)).elim

def ref15_next_b27 (x26 : PlanT) (k27 : Nat) (x27 : Bool) (s27 : Bool) : Option (Step (Step (List Bool) (List Bool)) Bool) :=
  (gd (bif (!s27) then x27 else false) (ref15_joins x26 ((k27 : Nat) : Int))).bind fun y17 =>
  some (.nxt (bif s27 then true else (bif x27 then y17 else false)))

def ref15_next_b28 (x26 : PlanT) (s27 : Bool) (k28 : Nat) (x28 : Bool) (s28 : (List Bool)) : Option (Step (Step (List Bool) (List Bool)) (List Bool)) :=
  grd ((0 : Int) ≤ ((k28 : Nat) : Int) ∧ ((k28 : Nat) : Int) < ((s28.length : Nat) : Int)) <|
  (gixN s28 (((k28 : Nat) : Int) : Int).toNat).bind fun v20 =>
  (gd (bif (!v20) then s27 else false) (ref15_joins x26 ((k28 : Nat) : Int))).bind fun y22 =>
  grd ((0 : Int) ≤ ((k28 : Nat) : Int) ∧ ((k28 : Nat) : Int) < ((s28.length : Nat) : Int)) <|
  some (.nxt (s28.set (((k28 : Nat) : Int) : Int).toNat (bif v20 then true else (bif s27 then y22 else false))))

def ref15_next_b26 (a1 : (List Bool)) (k26 : Nat) (x26 : PlanT) (s26 : (List Bool)) : Option (Step (List Bool) (List Bool)) :=
  aft (rangeL (ref15_next_b27 x26) a1 false) fun s27 =>
  aft (rangeL (ref15_next_b28 x26 s27) a1 s26) fun s28 =>
  some (.nxt s28)

def ref15_next (a0 : LanT) (a1 : (List Bool)) : Option (List Bool) :=
  grd (fits ((([] : (List Bool)) ++ a1) : List Bool).length 1) <|
  aft (rangeL (ref15_next_b26 a1) a0.Plans (([] : (List Bool)) ++ a1)) fun s26 =>
  some s26

theorem cf_ref15_next (a0 : LanT) (a1 : (List Bool)) (r : (List Bool)) (h : ref15_next a0 a1 = some r) : CallF Try.prog 206 [(LV.agg [(I a0.Segs), (LV.ro 2 (a0.Plans.map PlanT.cells)), (LV.ro 2 (a0.Hosts.map HostT.cells))]), (LV.ro 1 (a1.map bC))] 4 1 (r.map bC) := by
  unfold ref15_next at h
  refine CallF.of (NLss_map' _) (CallW.intro TT_ok Try.func206 rfl rfl [0, 1, 2, 4, 5, 7, 8, 9, 10, 11, 17, 18, 19, 20, 23, 24, 25, 26, 41, 42, 43] rfl ?_)
  conv => whnf
  replace h := grdS h
  obtain ⟨g16, h⟩ := h
  replace g16 : fits ((([] : List (List LV)) ++ (a1.map bC))).length 1 := by simpa only [se_len, se_ch, List.length_map] using g16
  repeat' first | with_reducible rfl | with_reducible exact True.intro | with_reducible assumption | refine parkI ?_ | exact g16 | exact (rfl : (_ : Nat) = _) | exact NLss_map' _ | refine NLss_app ?_ ?_ | refine NLss_rep ?_ | refine NLss_set ?_ ?_ | refine NLss_take ?_ | refine NLss_drop ?_ | (refine And.intro ?_ ?_ <;> conv => whnf) | (simp only [se_map, se_byL]; exact rfl) | (simp only [se_map, se_byL, se_len, se_ch, List.length_map]; done) | fail
  replace h := aftS h
  obtain ⟨O26, hO26, r26⟩ := h
  refine LoopW.norm [(1, (LV.ro 1 (a1.map bC))), (5, (LV.sl 2 0 ((([] : (List Bool)) ++ a1).map bC).length)), (17, (LV.ro 2 (a0.Plans.map PlanT.cells))), (18, (I (((a0.Plans.map PlanT.cells).length : Nat) : Int))), (19, (I ((0 : Nat) : Int)))] 3 [(2, (.row 4 1 ((([] : (List Bool)) ++ a1).map bC)))] ⟨rfl, (by simp only [se_map, se_byL, se_len, se_ch, List.length_map] : ((LV.sl 2 0 ((([] : List (List LV)) ++ (a1.map bC))).length) : LV) = (LV.sl 2 0 ((([] : (List Bool)) ++ a1).map bC).length)), rfl, rfl, rfl, trivial⟩ ⟨⟨(congrArg (fun q => some (Blk.row 4 1 q)) (by simp only [se_map, se_byL, se_len, se_ch, List.length_map] : ((([] : List (List LV)) ++ (a1.map bC)) : List (List LV)) = ((([] : (List Bool)) ++ a1).map bC))), rfl, NLss_bel (NLss_map' _)⟩, trivial⟩ (by repeat' first | exact True.intro | exact rfl | exact NLs_bels (by assumption) | refine ⟨?_, ?_⟩) rfl ?_
  refine LoopW.forR (fun k26 s26 => [(1, (LV.ro 1 (a1.map bC))), (5, (LV.sl 2 0 (s26.map bC).length)), (17, (LV.ro 2 (a0.Plans.map PlanT.cells))), (18, (I (((a0.Plans.map PlanT.cells).length : Nat) : Int))), (19, (I ((k26 : Nat) : Int)))]) (fun s26 => ⟨3, [(2, (.row 4 1 (s26.map bC)))]⟩) hO26 (fun hl26 s26 hs26 => ?_) (fun hl26 k26 x26 s26 o26 hk26 hx26 b26 K26 hret26 hbrk26 => ?_)
  · rw [hs26] at r26
    dsimp only [aftM] at r26
    have hd : decide (((a0.Plans.length : Nat) : Int) < (((a0.Plans.map PlanT.cells).length : Nat) : Int)) = false := by rw [decide_eq_false_iff_not]; (try simp only [se_len, se_ch, List.length_map]); omega
    refine LoopW.round TT_ok [0, 1, 2, 4, 5, 7, 8, 9, 10, 11, 17, 18, 19, 20, 23, 24, 25, 26, 41, 42, 43] ?_
    conv => whnf
    repeat' first | with_reducible rfl | with_reducible exact True.intro | with_reducible assumption | refine parkI ?_ | (refine And.intro ?_ ?_ <;> conv => whnf) | fail
    refine parkE (fun hc => ?_) (fun hc => ?_)
    · exact (Bool.false_ne_true (hd.symm.trans hc)).elim
    · clear hd
      conv => whnf
      have e := Option.some.inj r26
      subst e
      repeat' first | with_reducible rfl | with_reducible exact True.intro | with_reducible assumption | exact Or.inr ⟨_, rfl, congrArg (fun q => some (Blk.row 4 1 q)) rfl⟩ | exact (congrArg Bool.not h) | exact fun _ => True.intro | exact (rfl : (_ : Nat) = _) | exact (rfl : (_ : LV) = _) | exact NLss_map' _ | refine NLss_app ?_ ?_ | refine NLss_rep ?_ | refine NLss_set ?_ ?_ | refine NLss_take ?_ | refine NLss_drop ?_ | (refine And.intro ?_ ?_ <;> conv => whnf) | (intro h; (conv => whnf) <;> first | with_reducible rfl | assumption | exact h | exact (congrArg Bool.not h) | (refine ⟨h, True.intro⟩) | (refine ⟨congrArg Bool.not h, True.intro⟩) | (refine ⟨by assumption, True.intro⟩)) | (intro h; exact (Bool.false_ne_true (h.symm.trans (by assumption))).elim) | (intro h; exact (Bool.false_ne_true (Eq.trans (Eq.symm (by assumption)) h)).elim) | (intros; simp_all; done) | (intros; exfalso; simp_all; done) | (refine gand ?_ h; assumption) | (simp only [se_map, se_byL]; exact rfl) | (simp only [se_map, se_byL, se_len, se_ch, List.length_map]; done) | fail
  · unfold ref15_next_b26 at b26
    have hd : decide (((k26 : Nat) : Int) < (((a0.Plans.map PlanT.cells).length : Nat) : Int)) = true := by rw [decide_eq_true_eq]; (try simp only [se_len, se_ch, List.length_map] at hk26); (try simp only [se_len, se_ch, List.length_map]); omega
    refine LoopW.round TT_ok [0, 1, 2, 4, 5, 7, 8, 9, 10, 11, 17, 18, 19, 20, 23, 24, 25, 26, 41, 42, 43] ?_
    conv => whnf
    repeat' first | with_reducible rfl | with_reducible exact True.intro | with_reducible assumption | refine parkI ?_ | (refine And.intro ?_ ?_ <;> conv => whnf) | fail
    refine parkE (fun hc => ?_) (fun hc => ?_)
    · clear hd
      conv => whnf
      repeat' first | with_reducible rfl | with_reducible exact True.intro | with_reducible assumption | refine parkI ?_ | (refine ⟨_, (kixF (f := PlanT.cells) hx26), ?_⟩; conv => whnf) | (refine And.intro ?_ ?_ <;> conv => whnf) | fail
      replace b26 := aftS b26
      obtain ⟨O27, hO27, r27⟩ := b26
      refine LoopW.norm [(1, (LV.ro 1 (a1.map bC))), (5, (LV.sl 2 0 (s26.map bC).length)), (7, (LV.ptr 3 0 0)), (8, (LV.bool false)), (17, (LV.ro 2 (a0.Plans.map PlanT.cells))), (18, (I (((a0.Plans.map PlanT.cells).length : Nat) : Int))), (19, (I ((k26 : Nat) : Int))), (23, (LV.ro 1 (a1.map bC))), (24, (I (((a1.map bC).length : Nat) : Int))), (25, (I ((0 : Nat) : Int)))] 4 [(2, (.row 4 1 (s26.map bC))), (3, (.row 53 2 [[(I x26.ID), (LV.ro 3 (x26.Ports.map LinkT.cells))]]))] ⟨rfl, rfl, rfl, rfl, rfl, rfl, rfl, rfl, rfl, rfl, trivial⟩ ⟨⟨rfl, rfl, NLss_bel (NLss_map' _)⟩, ⟨⟨rfl, rfl, (by repeat' first | exact True.intro | exact rfl | exact NLs_bels (by assumption) | refine ⟨?_, ?_⟩)⟩, trivial⟩⟩ (by repeat' first | exact True.intro | exact rfl | exact NLs_bels (by assumption) | refine ⟨?_, ?_⟩) rfl ?_
      refine LoopW.forR (fun k27 s27 => [(1, (LV.ro 1 (a1.map bC))), (5, (LV.sl 2 0 (s26.map bC).length)), (7, (LV.ptr 3 0 0)), (8, (LV.bool s27)), (17, (LV.ro 2 (a0.Plans.map PlanT.cells))), (18, (I (((a0.Plans.map PlanT.cells).length : Nat) : Int))), (19, (I ((k26 : Nat) : Int))), (23, (LV.ro 1 (a1.map bC))), (24, (I (((a1.map bC).length : Nat) : Int))), (25, (I ((k27 : Nat) : Int)))]) (fun s27 => ⟨4, [(2, (.row 4 1 (s26.map bC))), (3, (.row 53 2 [[(I x26.ID), (LV.ro 3 (x26.Ports.map LinkT.cells))]]))]⟩) hO27 (fun hl27 s27 hs27 => ?_) (fun hl27 k27 x27 s27 o27 hk27 hx27 b27 K27 hret27 hbrk27 => ?_)
      · rw [hs27] at r27
        dsimp only [aftM] at r27
        have hd : decide (((a1.length : Nat) : Int) < (((a1.map bC).length : Nat) : Int)) = false := by rw [decide_eq_false_iff_not]; (try simp only [se_len, se_ch, List.length_map]); omega
        refine LoopW.round TT_ok [0, 1, 2, 4, 5, 7, 8, 9, 10, 11, 17, 18, 19, 20, 23, 24, 25, 26, 41, 42, 43] ?_
        conv => whnf
        repeat' first | with_reducible rfl | with_reducible exact True.intro | with_reducible assumption | refine parkI ?_ | (refine And.intro ?_ ?_ <;> conv => whnf) | fail
        refine parkE (fun hc => ?_) (fun hc => ?_)
        · exact (Bool.false_ne_true (hd.symm.trans hc)).elim
        · clear hd
          conv => whnf
          repeat' first | with_reducible rfl | with_reducible exact True.intro | with_reducible assumption | refine parkI ?_ | (refine And.intro ?_ ?_ <;> conv => whnf) | fail
          replace r27 := aftS r27
          obtain ⟨O28, hO28, r28⟩ := r27
          refine LoopW.norm [(1, (LV.ro 1 (a1.map bC))), (5, (LV.sl 2 0 (s26.map bC).length)), (7, (LV.ptr 3 0 0)), (8, (LV.bool s27)), (17, (LV.ro 2 (a0.Plans.map PlanT.cells))), (18, (I (((a0.Plans.map PlanT.cells).length : Nat) : Int))), (19, (I ((k26 : Nat) : Int))), (41, (I (((a1.map bC).length : Nat) : Int))), (42, (I ((0 : Nat) : Int)))] 4 [(2, (.row 4 1 (s26.map bC))), (3, (.row 53 2 [[(I x26.ID), (LV.ro 3 (x26.Ports.map LinkT.cells))]]))] ⟨rfl, rfl, rfl, rfl, rfl, rfl, rfl, rfl, rfl, trivial⟩ ⟨⟨rfl, rfl, NLss_bel (NLss_map' _)⟩, ⟨⟨rfl, rfl, (by repeat' first | exact True.intro | exact rfl | exact NLs_bels (by assumption) | refine ⟨?_, ?_⟩)⟩, trivial⟩⟩ (by repeat' first | exact True.intro | exact rfl | exact NLs_bels (by assumption) | refine ⟨?_, ?_⟩) rfl ?_
          refine LoopW.forR (fun k28 s28 => [(1, (LV.ro 1 (a1.map bC))), (5, (LV.sl 2 0 (s28.map bC).length)), (7, (LV.ptr 3 0 0)), (8, (LV.bool s27)), (17, (LV.ro 2 (a0.Plans.map PlanT.cells))), (18, (I (((a0.Plans.map PlanT.cells).length : Nat) : Int))), (19, (I ((k26 : Nat) : Int))), (41, (I (((a1.map bC).length : Nat) : Int))), (42, (I ((k28 : Nat) : Int)))]) (fun s28 => ⟨4, [(2, (.row 4 1 (s28.map bC))), (3, (.row 53 2 [[(I x26.ID), (LV.ro 3 (x26.Ports.map LinkT.cells))]]))]⟩) hO28 (fun hl28 s28 hs28 => ?_) (fun hl28 k28 x28 s28 o28 hk28 hx28 b28 K28 hret28 hbrk28 => ?_)
          · rw [hs28] at r28
            dsimp only [aftM] at r28
            have hd : decide (((a1.length : Nat) : Int) < (((a1.map bC).length : Nat) : Int)) = false := by rw [decide_eq_false_iff_not]; (try simp only [se_len, se_ch, List.length_map]); omega
            refine LoopW.round TT_ok [0, 1, 2, 4, 5, 7, 8, 9, 10, 11, 17, 18, 19, 20, 23, 24, 25, 26, 41, 42, 43] ?_
            conv => whnf
            repeat' first | with_reducible rfl | with_reducible exact True.intro | with_reducible assumption | refine parkI ?_ | (refine And.intro ?_ ?_ <;> conv => whnf) | fail
            refine parkE (fun hc => ?_) (fun hc => ?_)
            · exact (Bool.false_ne_true (hd.symm.trans hc)).elim
            · clear hd
              conv => whnf
              repeat' first | with_reducible rfl | with_reducible exact True.intro | with_reducible assumption | refine parkI ?_ | (refine And.intro ?_ ?_ <;> conv => whnf) | fail
              have e := Option.some.inj r28
              refine LoopW.norm [(1, (LV.ro 1 (a1.map bC))), (5, (LV.sl 2 0 (s28.map bC).length)), (17, (LV.ro 2 (a0.Plans.map PlanT.cells))), (18, (I (((a0.Plans.map PlanT.cells).length : Nat) : Int))), (19, (I ((k26 + 1 : Nat) : Int)))] 3 [(2, (.row 4 1 (s28.map bC)))] ⟨rfl, rfl, rfl, rfl, (congrArg (LV.int .i64) (w64_nat _ (by omega))), trivial⟩ ⟨⟨rfl, rfl, NLss_bel (NLss_map' _)⟩, trivial⟩ (by repeat' first | exact True.intro | exact rfl | exact NLs_bels (by assumption) | refine ⟨?_, ?_⟩) rfl (K26 _ e.symm)
          · unfold ref15_next_b28 at b28
            have hd : decide (((k28 : Nat) : Int) < (((a1.map bC).length : Nat) : Int)) = true := by rw [decide_eq_true_eq]; (try simp only [se_len, se_ch, List.length_map] at hk28); (try simp only [se_len, se_ch, List.length_map]); omega
            refine LoopW.round TT_ok [0, 1, 2, 4, 5, 7, 8, 9, 10, 11, 17, 18, 19, 20, 23, 24, 25, 26, 41, 42, 43] ?_
            conv => whnf
            repeat' first | with_reducible rfl | with_reducible exact True.intro | with_reducible assumption | refine parkI ?_ | (refine And.intro ?_ ?_ <;> conv => whnf) | fail
            refine parkE (fun hc => ?_) (fun hc => ?_)
            · clear hd
              conv => whnf
              replace b28 := grdS b28
              obtain ⟨g19, b28⟩ := b28
              replace g19 : (0 : Int) ≤ ((k28 : Nat) : Int) ∧ ((k28 : Nat) : Int) < (((s28.map bC).length : Nat) : Int) := by simpa only [se_len, se_ch, List.length_map] using g19
              replace b28 := bindS b28
              obtain ⟨v20, hv20, b28⟩ := b28
              have i21 : nth (s28.map bC) (0 + ((((k28 : Nat) : Int) : Int).toNat)) = some [(LV.bool v20)] := by simpa only [se_map, se_len, se_ch, List.length_map, nth_eq, Nat.zero_add, List.getElem?_map] using gixNF (f := bC) hv20
              replace b28 := bindS b28
              obtain ⟨y22, hy22, b28⟩ := b28
              have c23 := fun (hg : (bif (!v20) then s27 else false) = true) => c_ref15_joins x26 ((k28 : Nat) : Int) _ (gdS hg hy22)
              replace b28 := grdS b28
              obtain ⟨g24, b28⟩ := b28
              replace g24 : (0 : Int) ≤ ((k28 : Nat) : Int) ∧ ((k28 : Nat) : Int) < (((s28.map bC).length : Nat) : Int) := by simpa only [se_len, se_ch, List.length_map] using g24
              repeat' first | with_reducible rfl | with_reducible exact True.intro | with_reducible assumption | refine parkI ?_ | (refine ⟨_, c23, ?_⟩; conv => whnf) | exact g19 | exact g24 | (rw [i21]; conv => whnf) | exact (congrArg Bool.not h) | exact fun _ => True.intro | (refine And.intro ?_ ?_ <;> conv => whnf) | (intro h; (conv => whnf) <;> first | with_reducible rfl | assumption | exact h | exact (congrArg Bool.not h) | (refine ⟨h, True.intro⟩) | (refine ⟨congrArg Bool.not h, True.intro⟩) | (refine ⟨by assumption, True.intro⟩)) | (intro h; exact (Bool.false_ne_true (h.symm.trans (by assumption))).elim) | (intro h; exact (Bool.false_ne_true (Eq.trans (Eq.symm (by assumption)) h)).elim) | (intros; simp_all; done) | (intros; exfalso; simp_all; done) | (refine gand ?_ h; assumption) | fail
              have e := Option.some.inj b28
              refine LoopW.norm [(1, (LV.ro 1 (a1.map bC))), (5, (LV.sl 2 0 ((s28.set (((k28 : Nat) : Int) : Int).toNat (bif v20 then true else (bif s27 then y22 else false))).map bC).length)), (7, (LV.ptr 3 0 0)), (8, (LV.bool s27)), (17, (LV.ro 2 (a0.Plans.map PlanT.cells))), (18, (I (((a0.Plans.map PlanT.cells).length : Nat) : Int))), (19, (I ((k26 : Nat) : Int))), (41, (I (((a1.map bC).length : Nat) : Int))), (42, (I ((k28 + 1 : Nat) : Int)))] 4 [(2, (.row 4 1 ((s28.set (((k28 : Nat) : Int) : Int).toNat (bif v20 then true else (bif s27 then y22 else false))).map bC))), (3, (.row 53 2 [[(I x26.ID), (LV.ro 3 (x26.Ports.map LinkT.cells))]]))] ⟨rfl, (by simp only [se_map, se_byL, se_len, se_ch, List.length_map] : ((LV.sl 2 0 (s28.map bC).length) : LV) = (LV.sl 2 0 ((s28.set (((k28 : Nat) : Int) : Int).toNat (bif v20 then true else (bif s27 then y22 else false))).map bC).length)), rfl, rfl, rfl, rfl, rfl, rfl, (congrArg (LV.int .i64) (w64_nat _ (by omega))), trivial⟩ ⟨⟨(congrArg (fun q => some (Blk.row 4 1 q)) (by simp only [se_map, se_byL, se_len, se_ch, List.length_map] : ((setN (s28.map bC) (0 + ((((k28 : Nat) : Int) : Int).toNat)) [(LV.bool (bif v20 then true else (bif s27 then y22 else false)))]) : List (List LV)) = ((s28.set (((k28 : Nat) : Int) : Int).toNat (bif v20 then true else (bif s27 then y22 else false))).map bC))), rfl, NLss_bel (NLss_map' _)⟩, ⟨⟨rfl, rfl, (by repeat' first | exact True.intro | exact rfl | exact NLs_bels (by assumption) | refine ⟨?_, ?_⟩)⟩, trivial⟩⟩ (by repeat' first | exact True.intro | exact rfl | exact NLs_bels (by assumption) | refine ⟨?_, ?_⟩) rfl (K28 _ e.symm)
            · exact (Bool.false_ne_true (hc.symm.trans hd)).elim
      · unfold ref15_next_b27 at b27
        have hd : decide (((k27 : Nat) : Int) < (((a1.map bC).length : Nat) : Int)) = true := by rw [decide_eq_true_eq]; (try simp only [se_len, se_ch, List.length_map] at hk27); (try simp only [se_len, se_ch, List.length_map]); omega
        refine LoopW.round TT_ok [0, 1, 2, 4, 5, 7, 8, 9, 10, 11, 17, 18, 19, 20, 23, 24, 25, 26, 41, 42, 43] ?_
        conv => whnf
        repeat' first | with_reducible rfl | with_reducible exact True.intro | with_reducible assumption | refine parkI ?_ | (refine And.intro ?_ ?_ <;> conv => whnf) | fail
        refine parkE (fun hc => ?_) (fun hc => ?_)
        · clear hd
          conv => whnf
          replace b27 := bindS b27
          obtain ⟨y17, hy17, b27⟩ := b27
          have c18 := fun (hg : (bif (!s27) then x27 else false) = true) => c_ref15_joins x26 ((k27 : Nat) : Int) _ (gdS hg hy17)
          repeat' first | with_reducible rfl | with_reducible exact True.intro | with_reducible assumption | refine parkI ?_ | (refine ⟨_, (kixF (f := bC) hx27), ?_⟩; conv => whnf) | (refine ⟨_, c18, ?_⟩; conv => whnf) | exact (congrArg Bool.not h) | exact fun _ => True.intro | (refine And.intro ?_ ?_ <;> conv => whnf) | (intro h; (conv => whnf) <;> first | with_reducible rfl | assumption | exact h | exact (congrArg Bool.not h) | (refine ⟨h, True.intro⟩) | (refine ⟨congrArg Bool.not h, True.intro⟩) | (refine ⟨by assumption, True.intro⟩)) | (intro h; exact (Bool.false_ne_true (h.symm.trans (by assumption))).elim) | (intro h; exact (Bool.false_ne_true (Eq.trans (Eq.symm (by assumption)) h)).elim) | (intros; simp_all; done) | (intros; exfalso; simp_all; done) | (refine gand ?_ h; assumption) | fail
          have e := Option.some.inj b27
          refine LoopW.norm [(1, (LV.ro 1 (a1.map bC))), (5, (LV.sl 2 0 (s26.map bC).length)), (7, (LV.ptr 3 0 0)), (8, (LV.bool (bif s27 then true else (bif x27 then y17 else false)))), (17, (LV.ro 2 (a0.Plans.map PlanT.cells))), (18, (I (((a0.Plans.map PlanT.cells).length : Nat) : Int))), (19, (I ((k26 : Nat) : Int))), (23, (LV.ro 1 (a1.map bC))), (24, (I (((a1.map bC).length : Nat) : Int))), (25, (I ((k27 + 1 : Nat) : Int)))] 4 [(2, (.row 4 1 (s26.map bC))), (3, (.row 53 2 [[(I x26.ID), (LV.ro 3 (x26.Ports.map LinkT.cells))]]))] ⟨rfl, rfl, rfl, rfl, rfl, rfl, rfl, rfl, rfl, (congrArg (LV.int .i64) (w64_nat _ (by omega))), trivial⟩ ⟨⟨rfl, rfl, NLss_bel (NLss_map' _)⟩, ⟨⟨rfl, rfl, (by repeat' first | exact True.intro | exact rfl | exact NLs_bels (by assumption) | refine ⟨?_, ?_⟩)⟩, trivial⟩⟩ (by repeat' first | exact True.intro | exact rfl | exact NLs_bels (by assumption) | refine ⟨?_, ?_⟩) rfl (K27 _ e.symm)
        · exact (Bool.false_ne_true (hc.symm.trans hd)).elim
    · exact (Bool.false_ne_true (hc.symm.trans hd)).elim

theorem c_ref15_next (a0 : LanT) (a1 : (List Bool)) (r : (List Bool)) (h : ref15_next a0 a1 = some r) : CallP Try.prog 206 [(LV.agg [(I a0.Segs), (LV.ro 2 (a0.Plans.map PlanT.cells)), (LV.ro 2 (a0.Hosts.map HostT.cells))]), (LV.ro 1 (a1.map bC))] (LV.ro 1 (r.map bC)) := by
  exact CallF.toP (cf_ref15_next a0 a1 r h) (by repeat' first | exact True.intro | assumption | refine ⟨?_, ?_⟩) (NLss_map' _)

def ref15_Part_b24 (a0 : LanT) (a1 : Int) (s24 : ((List Bool) × Int)) : Option (Step (List Int) ((List Bool) × Int)) :=
  (bif (decide (s24.2 < a0.Segs)) then
    grd (fits ((s24.1 ++ ([(decide (s24.2 = a1))] : (List Bool))) : List Bool).length 1) <|
    some (.nxt ((s24.1 ++ ([(decide (s24.2 = a1))] : (List Bool))), (IntKind.i64.wrap (s24.2 + 1))))
  else
    some (.brk (s24.1, s24.2)))

def ref15_Part_b25 (a0 : LanT) (s25 : ((List Bool) × Int)) : Option (Step (List Int) ((List Bool) × Int)) :=
  (bif (decide (s25.2 < a0.Segs)) then
    (ref15_next a0 s25.1).bind fun y26 =>
    some (.nxt (y26, (IntKind.i64.wrap (s25.2 + 1))))
  else
    some (.brk (s25.1, s25.2)))

def ref15_Part_b26 (s25 : ((List Bool) × Int)) (k26 : Nat) (s26 : (List Int)) : Option (Step (List Int) (List Int)) :=
  grd ((0 : Int) ≤ ((k26 : Nat) : Int) ∧ ((k26 : Nat) : Int) < ((s25.1.length : Nat) : Int)) <|
  (gixN s25.1 (((k26 : Nat) : Int) : Int).toNat).bind fun v33 =>
  (bif v33 then
    grd (fits ((s26 ++ ([((k26 : Nat) : Int)] : (List Int))) : List Int).length 8) <|
    some (.nxt (s26 ++ ([((k26 : Nat) : Int)] : (List Int))))
  else
    some (.nxt s26))

def ref15_Part (a0 : LanT) (a1 : Int) : Option (List Int) :=
  aft (loopF 1000000 (ref15_Part_b24 a0 a1) (([] : (List Bool)), 0)) fun s24 =>
  aft (loopF 1000000 (ref15_Part_b25 a0) (s24.1, 0)) fun s25 =>
  aft (rangeN (ref15_Part_b26 s25) ((s25.1.length : Nat) : Int) ([] : (List Int))) fun s26 =>
  some s26

theorem cf_ref15_Part (a0 : LanT) (a1 : Int) (r : (List Int)) (h : ref15_Part a0 a1 = some r) : CallF Try.prog 101 [(LV.agg [(I a0.Segs), (LV.ro 2 (a0.Plans.map PlanT.cells)), (LV.ro 2 (a0.Hosts.map HostT.cells))]), (I a1)] 3 1 (r.map iC) := by
  unfold ref15_Part at h
  refine CallF.of (NLss_map' _) (CallW.intro TT_ok Try.func101 rfl rfl [0, 1, 2, 4, 5, 6, 7, 8, 9, 10, 15, 27, 34, 35, 36, 37, 41] rfl ?_)
  conv => whnf
  repeat' first | with_reducible rfl | with_reducible exact True.intro | with_reducible assumption | refine parkI ?_ | (refine And.intro ?_ ?_ <;> conv => whnf) | fail
  replace h := aftS h
  obtain ⟨O24, hO24, r24⟩ := h
  refine LoopW.norm [(1, (I a1)), (2, (LV.ptr 0 0 0)), (5, (LV.sl 1 0 ((([] : (List Bool)), 0).1.map bC).length)), (6, (I (([] : (List Bool)), 0).2))] 2 [(0, (.row 47 3 [[(I a0.Segs), (LV.ro 2 (a0.Plans.map PlanT.cells)), (LV.ro 2 (a0.Hosts.map HostT.cells))]])), (1, (.row 4 1 ((([] : (List Bool)), 0).1.map bC)))] ⟨rfl, rfl, (by simp only [se_map, se_byL, se_len, se_ch, List.length_map] : ((LV.sl 1 0 0) : LV) = (LV.sl 1 0 ((([] : (List Bool)), 0).1.map bC).length)), (by simp only [se_map, se_byL, se_len, se_ch, List.length_map] : ((I 0) : LV) = (I (([] : (List Bool)), 0).2)), trivial⟩ ⟨⟨rfl, rfl, (by repeat' first | exact True.intro | exact rfl | exact NLs_bels (by assumption) | refine ⟨?_, ?_⟩)⟩, ⟨⟨(congrArg (fun q => some (Blk.row 4 1 q)) (by simp only [se_map, se_byL, se_len, se_ch, List.length_map] : (([] : List (List LV)) : List (List LV)) = ((([] : (List Bool)), 0).1.map bC))), rfl, NLss_bel (NLss_map' _)⟩, trivial⟩⟩ (by repeat' first | exact True.intro | exact rfl | exact NLs_bels (by assumption) | refine ⟨?_, ?_⟩) rfl ?_
  refine LoopW.forF (fun s24 => [(1, (I a1)), (2, (LV.ptr 0 0 0)), (5, (LV.sl 1 0 (s24.1.map bC).length)), (6, (I s24.2))]) (fun s24 => ⟨2, [(0, (.row 47 3 [[(I a0.Segs), (LV.ro 2 (a0.Plans.map PlanT.cells)), (LV.ro 2 (a0.Hosts.map HostT.cells))]])), (1, (.row 4 1 (s24.1.map bC)))]⟩) hO24 (fun s24 o24 b24 K24 hret24 hbrk24 => ?_)
  unfold ref15_Part_b24 at b24
  refine LoopW.round TT_ok [0, 1, 2, 4, 5, 6, 7, 8, 9, 10, 15, 27, 34, 35, 36, 37, 41] ?_
  conv => whnf
  repeat' first | with_reducible rfl | with_reducible exact True.intro | with_reducible assumption | refine parkI ?_ | (refine And.intro ?_ ?_ <;> conv => whnf) | fail
  refine parkE (fun hc => ?_) (fun hc => ?_)
  · replace b24 := condT hc b24
    conv => whnf
    replace b24 := grdS b24
    obtain ⟨g15, b24⟩ := b24
    replace g15 : fits (((s24.1.map bC) ++ [[(LV.bool (decide (s24.2 = a1)))]])).length 1 := by simpa only [se_len, se_ch, List.length_map] using g15
    repeat' first | with_reducible rfl | with_reducible exact True.intro | with_reducible assumption | refine parkI ?_ | exact g15 | exact (rfl : (_ : Nat) = _) | exact NLss_map' _ | refine NLss_app ?_ ?_ | refine NLss_rep ?_ | refine NLss_set ?_ ?_ | refine NLss_take ?_ | refine NLss_drop ?_ | (refine And.intro ?_ ?_ <;> conv => whnf) | (simp only [se_map, se_byL]; exact rfl) | (simp only [se_map, se_byL, se_len, se_ch, List.length_map]; done) | fail
    have e := Option.some.inj b24
    refine LoopW.ren [(0, 0), (3, 1)] [(1, (I a1)), (2, (LV.ptr 0 0 0)), (5, (LV.sl 1 0 (((s24.1 ++ ([(decide (s24.2 = a1))] : (List Bool))), (IntKind.i64.wrap (s24.2 + 1))).1.map bC).length)), (6, (I ((s24.1 ++ ([(decide (s24.2 = a1))] : (List Bool))), (IntKind.i64.wrap (s24.2 + 1))).2))] 2 [(0, (.row 47 3 [[(I a0.Segs), (LV.ro 2 (a0.Plans.map PlanT.cells)), (LV.ro 2 (a0.Hosts.map HostT.cells))]])), (1, (.row 4 1 (((s24.1 ++ ([(decide (s24.2 = a1))] : (List Bool))), (IntKind.i64.wrap (s24.2 + 1))).1.map bC)))] rfl ⟨rfl, rfl, (by simp only [se_map, se_byL, se_len, se_ch, List.length_map] : ((LV.sl 1 0 (((s24.1.map bC) ++ [[(LV.bool (decide (s24.2 = a1)))]])).length) : LV) = (LV.sl 1 0 (((s24.1 ++ ([(decide (s24.2 = a1))] : (List Bool))), (IntKind.i64.wrap (s24.2 + 1))).1.map bC).length)), (by simp only [se_map, se_byL, se_len, se_ch, List.length_map] : ((I (IntKind.i64.wrap (s24.2 + 1))) : LV) = (I ((s24.1 ++ ([(decide (s24.2 = a1))] : (List Bool))), (IntKind.i64.wrap (s24.2 + 1))).2)), trivial⟩ ⟨⟨rfl, rfl, .inl ⟨rfl, (by repeat' first | exact NLss_map' _ | refine NLss_app ?_ ?_ | refine NLss_set ?_ ?_ | refine NLss_rep ?_ | refine NLss_take ?_ | refine NLss_drop ?_ | exact True.intro | refine ⟨?_, ?_⟩)⟩⟩, rfl, rfl, ⟨⟨rfl, rfl, .inl ⟨(by simp only [se_map, se_byL, se_len, se_ch, List.length_map] : (((s24.1.map bC) ++ [[(LV.bool (decide (s24.2 = a1)))]]) : List (List LV)) = (((s24.1 ++ ([(decide (s24.2 = a1))] : (List Bool))), (IntKind.i64.wrap (s24.2 + 1))).1.map bC)), (by repeat' first | exact NLss_map' _ | refine NLss_app ?_ ?_ | refine NLss_set ?_ ?_ | refine NLss_rep ?_ | refine NLss_take ?_ | refine NLss_drop ?_ | exact True.intro | refine ⟨?_, ?_⟩)⟩⟩, rfl, rfl, trivial⟩⟩ rfl (K24 _ e.symm)
  · replace b24 := condF hc b24
    conv => whnf
    have e := Option.some.inj b24
    replace e := hbrk24 _ e.symm
    rw [e] at r24
    dsimp only [aftM] at r24
    repeat' first | with_reducible rfl | with_reducible exact True.intro | with_reducible assumption | refine parkI ?_ | (refine And.intro ?_ ?_ <;> conv => whnf) | fail
    replace r24 := aftS r24
    obtain ⟨O25, hO25, r25⟩ := r24
    refine LoopW.norm [(2, (LV.ptr 0 0 0)), (5, (LV.sl 1 0 ((s24.1, 0).1.map bC).length)), (7, (I (s24.1, 0).2))] 2 [(0, (.row 47 3 [[(I a0.Segs), (LV.ro 2 (a0.Plans.map PlanT.cells)), (LV.ro 2 (a0.Hosts.map HostT.cells))]])), (1, (.row 4 1 ((s24.1, 0).1.map bC)))] ⟨rfl, (by simp only [se_map, se_byL, se_len, se_ch, List.length_map] : ((LV.sl 1 0 (s24.1.map bC).length) : LV) = (LV.sl 1 0 ((s24.1, 0).1.map bC).length)), (by simp only [se_map, se_byL, se_len, se_ch, List.length_map] : ((I 0) : LV) = (I (s24.1, 0).2)), trivial⟩ ⟨⟨rfl, rfl, (by repeat' first | exact True.intro | exact rfl | exact NLs_bels (by assumption) | refine ⟨?_, ?_⟩)⟩, ⟨⟨(congrArg (fun q => some (Blk.row 4 1 q)) (by simp only [se_map, se_byL, se_len, se_ch, List.length_map] : ((s24.1.map bC) : List (List LV)) = ((s24.1, 0).1.map bC))), rfl, NLss_bel (NLss_map' _)⟩, trivial⟩⟩ (by repeat' first | exact True.intro | exact rfl | exact NLs_bels (by assumption) | refine ⟨?_, ?_⟩) rfl ?_
    refine LoopW.forF (fun s25 => [(2, (LV.ptr 0 0 0)), (5, (LV.sl 1 0 (s25.1.map bC).length)), (7, (I s25.2))]) (fun s25 => ⟨2, [(0, (.row 47 3 [[(I a0.Segs), (LV.ro 2 (a0.Plans.map PlanT.cells)), (LV.ro 2 (a0.Hosts.map HostT.cells))]])), (1, (.row 4 1 (s25.1.map bC)))]⟩) hO25 (fun s25 o25 b25 K25 hret25 hbrk25 => ?_)
    unfold ref15_Part_b25 at b25
    refine LoopW.round TT_ok [0, 1, 2, 4, 5, 6, 7, 8, 9, 10, 15, 27, 34, 35, 36, 37, 41] ?_
    conv => whnf
    repeat' first | with_reducible rfl | with_reducible exact True.intro | with_reducible assumption | refine parkI ?_ | (refine And.intro ?_ ?_ <;> conv => whnf) | fail
    refine parkE (fun hc => ?_) (fun hc => ?_)
    · replace b25 := condT hc b25
      conv => whnf
      replace b25 := bindS b25
      obtain ⟨y16, hy16, b25⟩ := b25
      have c17 := cf_ref15_next a0 s25.1 _ hy16
      repeat' first | with_reducible rfl | with_reducible exact True.intro | with_reducible assumption | refine parkI ?_ | (refine CallW.done (CallF.at c17 (by repeat' first | exact True.intro | assumption | refine ⟨?_, ?_⟩) (NLss_map' _)) ?_; conv => whnf) | (refine ⟨_, _, CallF.at c17 (by repeat' first | exact True.intro | assumption | refine ⟨?_, ?_⟩) (NLss_map' _), ?_⟩; conv => whnf) | exact (rfl : (_ : Nat) = _) | exact NLss_map' _ | refine NLss_app ?_ ?_ | refine NLss_rep ?_ | refine NLss_set ?_ ?_ | refine NLss_take ?_ | refine NLss_drop ?_ | (refine And.intro ?_ ?_ <;> conv => whnf) | (simp only [se_map, se_byL]; exact rfl) | (simp only [se_map, se_byL, se_len, se_ch, List.length_map]; done) | fail
      have e := Option.some.inj b25
      refine LoopW.ren [(0, 0), (2, 1)] [(2, (LV.ptr 0 0 0)), (5, (LV.sl 1 0 ((y16, (IntKind.i64.wrap (s25.2 + 1))).1.map bC).length)), (7, (I (y16, (IntKind.i64.wrap (s25.2 + 1))).2))] 2 [(0, (.row 47 3 [[(I a0.Segs), (LV.ro 2 (a0.Plans.map PlanT.cells)), (LV.ro 2 (a0.Hosts.map HostT.cells))]])), (1, (.row 4 1 ((y16, (IntKind.i64.wrap (s25.2 + 1))).1.map bC)))] rfl ⟨rfl, (by simp only [se_map, se_byL, se_len, se_ch, List.length_map] : ((LV.sl 1 0 (y16.map bC).length) : LV) = (LV.sl 1 0 ((y16, (IntKind.i64.wrap (s25.2 + 1))).1.map bC).length)), (by simp only [se_map, se_byL, se_len, se_ch, List.length_map] : ((I (IntKind.i64.wrap (s25.2 + 1))) : LV) = (I (y16, (IntKind.i64.wrap (s25.2 + 1))).2)), trivial⟩ ⟨⟨rfl, rfl, .inl ⟨rfl, (by repeat' first | exact NLss_map' _ | refine NLss_app ?_ ?_ | refine NLss_set ?_ ?_ | refine NLss_rep ?_ | refine NLss_take ?_ | refine NLss_drop ?_ | exact True.intro | refine ⟨?_, ?_⟩)⟩⟩, rfl, rfl, ⟨⟨rfl, rfl, .inl ⟨(by simp only [se_map, se_byL, se_len, se_ch, List.length_map] : ((y16.map bC) : List (List LV)) = ((y16, (IntKind.i64.wrap (s25.2 + 1))).1.map bC)), (by repeat' first | exact NLss_map' _ | refine NLss_app ?_ ?_ | refine NLss_set ?_ ?_ | refine NLss_rep ?_ | refine NLss_take ?_ | refine NLss_drop ?_ | exact True.intro | refine ⟨?_, ?_⟩)⟩⟩, rfl, rfl, trivial⟩⟩ rfl (K25 _ e.symm)
    · replace b25 := condF hc b25
      conv => whnf
      have e := Option.some.inj b25
      replace e := hbrk25 _ e.symm
      rw [e] at r25
      dsimp only [aftM] at r25
      repeat' first | with_reducible rfl | with_reducible exact True.intro | with_reducible assumption | refine parkI ?_ | (refine And.intro ?_ ?_ <;> conv => whnf) | fail
      replace r25 := aftS r25
      obtain ⟨O26, hO26, r26⟩ := r25
      refine LoopW.norm [(8, (LV.sl 2 0 (([] : (List Int)).map iC).length)), (34, (LV.sl 1 0 (s25.1.map bC).length)), (35, (I (((s25.1.map bC).length : Nat) : Int))), (36, (I ((0 : Nat) : Int)))] 3 [(2, (.row 3 1 (([] : (List Int)).map iC))), (1, (.row 4 1 (s25.1.map bC)))] ⟨(by simp only [se_map, se_byL, se_len, se_ch, List.length_map] : ((LV.sl 2 0 0) : LV) = (LV.sl 2 0 (([] : (List Int)).map iC).length)), rfl, rfl, rfl, trivial⟩ ⟨⟨(congrArg (fun q => some (Blk.row 3 1 q)) (by simp only [se_map, se_byL, se_len, se_ch, List.length_map] : (([] : List (List LV)) : List (List LV)) = (([] : (List Int)).map iC))), rfl, NLss_bel (NLss_map' _)⟩, ⟨⟨rfl, rfl, NLss_bel (NLss_map' _)⟩, trivial⟩⟩ (by repeat' first | exact True.intro | exact rfl | exact NLs_bels (by assumption) | refine ⟨?_, ?_⟩) rfl ?_
      refine LoopW.forN (fun k26 s26 => [(8, (LV.sl 2 0 (s26.map iC).length)), (34, (LV.sl 1 0 (s25.1.map bC).length)), (35, (I (((s25.1.map bC).length : Nat) : Int))), (36, (I ((k26 : Nat) : Int)))]) (fun s26 => ⟨3, [(2, (.row 3 1 (s26.map iC))), (1, (.row 4 1 (s25.1.map bC)))]⟩) hO26 (fun hl26 s26 hs26 => ?_) (fun hl26 k26 s26 o26 hk26 b26 K26 hret26 hbrk26 => ?_)
      · rw [hs26] at r26
        dsimp only [aftM] at r26
        have hd : decide ((((((s25.1.length : Nat) : Int)).toNat : Nat) : Int) < (((s25.1.map bC).length : Nat) : Int)) = false := by rw [decide_eq_false_iff_not]; (try simp only [se_len, se_ch, List.length_map]); omega
        refine LoopW.round TT_ok [0, 1, 2, 4, 5, 6, 7, 8, 9, 10, 15, 27, 34, 35, 36, 37, 41] ?_
        conv => whnf
        repeat' first | with_reducible rfl | with_reducible exact True.intro | with_reducible assumption | refine parkI ?_ | (refine And.intro ?_ ?_ <;> conv => whnf) | fail
        refine parkE (fun hc => ?_) (fun hc => ?_)
        · exact (Bool.false_ne_true (hd.symm.trans hc)).elim
        · clear hd
          conv => whnf
          have e := Option.some.inj r26
          subst e
          repeat' first | with_reducible rfl | with_reducible exact True.intro | with_reducible assumption | exact Or.inr ⟨_, rfl, congrArg (fun q => some (Blk.row 3 1 q)) rfl⟩ | exact (congrArg Bool.not h) | exact fun _ => True.intro | exact (rfl : (_ : Nat) = _) | exact (rfl : (_ : LV) = _) | exact NLss_map' _ | refine NLss_app ?_ ?_ | refine NLss_rep ?_ | refine NLss_set ?_ ?_ | refine NLss_take ?_ | refine NLss_drop ?_ | (refine And.intro ?_ ?_ <;> conv => whnf) | (intro h; (conv => whnf) <;> first | with_reducible rfl | assumption | exact h | exact (congrArg Bool.not h) | (refine ⟨h, True.intro⟩) | (refine ⟨congrArg Bool.not h, True.intro⟩) | (refine ⟨by assumption, True.intro⟩)) | (intro h; exact (Bool.false_ne_true (h.symm.trans (by assumption))).elim) | (intro h; exact (Bool.false_ne_true (Eq.trans (Eq.symm (by assumption)) h)).elim) | (intros; simp_all; done) | (intros; exfalso; simp_all; done) | (refine gand ?_ h; assumption) | (simp only [se_map, se_byL]; exact rfl) | (simp only [se_map, se_byL, se_len, se_ch, List.length_map]; done) | fail
      · unfold ref15_Part_b26 at b26
        have hd : decide (((k26 : Nat) : Int) < (((s25.1.map bC).length : Nat) : Int)) = true := by rw [decide_eq_true_eq]; (try simp only [se_len, se_ch, List.length_map] at hk26); (try simp only [se_len, se_ch, List.length_map]); omega
        refine LoopW.round TT_ok [0, 1, 2, 4, 5, 6, 7, 8, 9, 10, 15, 27, 34, 35, 36, 37, 41] ?_
        conv => whnf
        repeat' first | with_reducible rfl | with_reducible exact True.intro | with_reducible assumption | refine parkI ?_ | (refine And.intro ?_ ?_ <;> conv => whnf) | fail
        refine parkE (fun hc => ?_) (fun hc => ?_)
        · clear hd
          conv => whnf
          replace b26 := grdS b26
          obtain ⟨g18, b26⟩ := b26
          replace g18 : (0 : Int) ≤ ((k26 : Nat) : Int) ∧ ((k26 : Nat) : Int) < (((s25.1.map bC).length : Nat) : Int) := by simpa only [se_len, se_ch, List.length_map] using g18
          replace b26 := bindS b26
          obtain ⟨v19, hv19, b26⟩ := b26
          have i20 : nth (s25.1.map bC) (0 + ((((k26 : Nat) : Int) : Int).toNat)) = some [(LV.bool v19)] := by simpa only [se_map, se_len, se_ch, List.length_map, nth_eq, Nat.zero_add, List.getElem?_map] using gixNF (f := bC) hv19
          repeat' first | with_reducible rfl | with_reducible exact True.intro | with_reducible assumption | refine parkI ?_ | exact g18 | (rw [i20]; conv => whnf) | (refine And.intro ?_ ?_ <;> conv => whnf) | fail
          refine parkE (fun hc => ?_) (fun hc => ?_)
          · replace b26 := condT hc b26
            conv => whnf
            replace b26 := grdS b26
            obtain ⟨g21, b26⟩ := b26
            replace g21 : fits (((s26.map iC) ++ [[(I ((k26 : Nat) : Int))]])).length 8 := by simpa only [se_len, se_ch, List.length_map] using g21
            repeat' first | with_reducible rfl | with_reducible exact True.intro | with_reducible assumption | refine parkI ?_ | exact g21 | exact (rfl : (_ : Nat) = _) | exact NLss_map' _ | refine NLss_app ?_ ?_ | refine NLss_rep ?_ | refine NLss_set ?_ ?_ | refine NLss_take ?_ | refine NLss_drop ?_ | (refine And.intro ?_ ?_ <;> conv => whnf) | (simp only [se_map, se_byL]; exact rfl) | (simp only [se_map, se_byL, se_len, se_ch, List.length_map]; done) | fail
            have e := Option.some.inj b26
            refine LoopW.ren [(4, 2), (1, 1)] [(8, (LV.sl 2 0 ((s26 ++ ([((k26 : Nat) : Int)] : (List Int))).map iC).length)), (34, (LV.sl 1 0 (s25.1.map bC).length)), (35, (I (((s25.1.map bC).length : Nat) : Int))), (36, (I ((k26 + 1 : Nat) : Int)))] 3 [(2, (.row 3 1 ((s26 ++ ([((k26 : Nat) : Int)] : (List Int))).map iC))), (1, (.row 4 1 (s25.1.map bC)))] rfl ⟨(by simp only [se_map, se_byL, se_len, se_ch, List.length_map] : ((LV.sl 2 0 (((s26.map iC) ++ [[(I ((k26 : Nat) : Int))]])).length) : LV) = (LV.sl 2 0 ((s26 ++ ([((k26 : Nat) : Int)] : (List Int))).map iC).length)), rfl, rfl, (congrArg (LV.int .i64) (w64_nat _ (by omega))), trivial⟩ ⟨⟨rfl, rfl, .inl ⟨(by simp only [se_map, se_byL, se_len, se_ch, List.length_map] : (((s26.map iC) ++ [[(I ((k26 : Nat) : Int))]]) : List (List LV)) = ((s26 ++ ([((k26 : Nat) : Int)] : (List Int))).map iC)), (by repeat' first | exact NLss_map' _ | refine NLss_app ?_ ?_ | refine NLss_set ?_ ?_ | refine NLss_rep ?_ | refine NLss_take ?_ | refine NLss_drop ?_ | exact True.intro | refine ⟨?_, ?_⟩)⟩⟩, rfl, rfl, ⟨⟨rfl, rfl, .inl ⟨rfl, (by repeat' first | exact NLss_map' _ | refine NLss_app ?_ ?_ | refine NLss_set ?_ ?_ | refine NLss_rep ?_ | refine NLss_take ?_ | refine NLss_drop ?_ | exact True.intro | refine ⟨?_, ?_⟩)⟩⟩, rfl, rfl, trivial⟩⟩ rfl (K26 _ e.symm)
          · replace b26 := condF hc b26
            conv => whnf
            repeat' first | with_reducible rfl | with_reducible exact True.intro | with_reducible assumption | refine parkI ?_ | (refine And.intro ?_ ?_ <;> conv => whnf) | fail
            have e := Option.some.inj b26
            refine LoopW.norm [(8, (LV.sl 2 0 (s26.map iC).length)), (34, (LV.sl 1 0 (s25.1.map bC).length)), (35, (I (((s25.1.map bC).length : Nat) : Int))), (36, (I ((k26 + 1 : Nat) : Int)))] 3 [(2, (.row 3 1 (s26.map iC))), (1, (.row 4 1 (s25.1.map bC)))] ⟨rfl, rfl, rfl, (congrArg (LV.int .i64) (w64_nat _ (by omega))), trivial⟩ ⟨⟨rfl, rfl, NLss_bel (NLss_map' _)⟩, ⟨⟨rfl, rfl, NLss_bel (NLss_map' _)⟩, trivial⟩⟩ (by repeat' first | exact True.intro | exact rfl | exact NLs_bels (by assumption) | refine ⟨?_, ?_⟩) rfl (K26 _ e.symm)
        · exact (Bool.false_ne_true (hc.symm.trans hd)).elim

theorem c_ref15_Part (a0 : LanT) (a1 : Int) (r : (List Int)) (h : ref15_Part a0 a1 = some r) : CallP Try.prog 101 [(LV.agg [(I a0.Segs), (LV.ro 2 (a0.Plans.map PlanT.cells)), (LV.ro 2 (a0.Hosts.map HostT.cells))]), (I a1)] (LV.ro 1 (r.map iC)) := by
  exact CallF.toP (cf_ref15_Part a0 a1 r h) (by repeat' first | exact True.intro | assumption | refine ⟨?_, ?_⟩) (NLss_map' _)

def ref15_Parts_b23 (a0 : LanT) (s23 : (Int × Int)) : Option (Step Int (Int × Int)) :=
  (bif (decide (s23.2 < a0.Segs)) then
    (ref15_Part a0 s23.2).bind fun y36 =>
    grd ((0 : Int) ≤ 0 ∧ 0 < ((y36.length : Nat) : Int)) <|
    (gixN y36 (0 : Int).toNat).bind fun v39 =>
    (bif (decide (v39 = s23.2)) then
      some (.nxt ((IntKind.i64.wrap (s23.1 + 1)), (IntKind.i64.wrap (s23.2 + 1))))
    else
      some (.nxt (s23.1, (IntKind.i64.wrap (s23.2 + 1)))))
  else
    some (.brk (s23.1, s23.2)))

def ref15_Parts (a0 : LanT) : Option Int :=
  aft (loopF 1000000 (ref15_Parts_b23 a0) (0, 0)) fun s23 =>
  some s23.1

theorem c_ref15_Parts (a0 : LanT) (r : Int) (h : ref15_Parts a0 = some r) : CallP Try.prog 95 [(LV.agg [(I a0.Segs), (LV.ro 2 (a0.Plans.map PlanT.cells)), (LV.ro 2 (a0.Hosts.map HostT.cells))])] (I r) := by
  unfold ref15_Parts at h
  refine .intro (by repeat' first | exact True.intro | assumption | refine ⟨?_, ?_⟩) (.intro TT_ok Try.func95 rfl rfl [0, 1, 2, 3, 4, 8, 17] rfl ?_)
  conv => whnf
  repeat' first | with_reducible rfl | with_reducible exact True.intro | with_reducible assumption | refine parkI ?_ | (refine And.intro ?_ ?_ <;> conv => whnf) | fail
  replace h := aftS h
  obtain ⟨O23, hO23, r23⟩ := h
  refine LoopW.norm [(1, (LV.ptr 0 0 0)), (3, (I (0, 0).1)), (4, (I (0, 0).2))] 1 [(0, (.row 47 3 [[(I a0.Segs), (LV.ro 2 (a0.Plans.map PlanT.cells)), (LV.ro 2 (a0.Hosts.map HostT.cells))]]))] ⟨rfl, (by simp only [se_map, se_byL, se_len, se_ch, List.length_map] : ((I 0) : LV) = (I (0, 0).1)), (by simp only [se_map, se_byL, se_len, se_ch, List.length_map] : ((I 0) : LV) = (I (0, 0).2)), trivial⟩ ⟨⟨rfl, rfl, (by repeat' first | exact True.intro | exact rfl | exact NLs_bels (by assumption) | refine ⟨?_, ?_⟩)⟩, trivial⟩ (by repeat' first | exact True.intro | exact rfl | exact NLs_bels (by assumption) | refine ⟨?_, ?_⟩) rfl ?_
  refine LoopW.forF (fun s23 => [(1, (LV.ptr 0 0 0)), (3, (I s23.1)), (4, (I s23.2))]) (fun s23 => ⟨1, [(0, (.row 47 3 [[(I a0.Segs), (LV.ro 2 (a0.Plans.map PlanT.cells)), (LV.ro 2 (a0.Hosts.map HostT.cells))]]))]⟩) hO23 (fun s23 o23 b23 K23 hret23 hbrk23 => ?_)
  unfold ref15_Parts_b23 at b23
  refine LoopW.round TT_ok [0, 1, 2, 3, 4, 8, 17] ?_
  conv => whnf
  repeat' first | with_reducible rfl | with_reducible exact True.intro | with_reducible assumption | refine parkI ?_ | (refine And.intro ?_ ?_ <;> conv => whnf) | fail
  refine parkE (fun hc => ?_) (fun hc => ?_)
  · replace b23 := condT hc b23
    conv => whnf
    replace b23 := bindS b23
    obtain ⟨y36, hy36, b23⟩ := b23
    have c37 := cf_ref15_Part a0 s23.2 _ hy36
    replace b23 := grdS b23
    obtain ⟨g38, b23⟩ := b23
    replace g38 : (0 : Int) ≤ 0 ∧ 0 < (((y36.map iC).length : Nat) : Int) := by simpa only [se_len, se_ch, List.length_map] using g38
    replace b23 := bindS b23
    obtain ⟨v39, hv39, b23⟩ := b23
    have i40 : nth (y36.map iC) (0 + ((0 : Int).toNat)) = some [(I v39)] := by simpa only [se_map, se_len, se_ch, List.length_map, nth_eq, Nat.zero_add, List.getElem?_map] using gixNF (f := iC) hv39
    repeat' first | with_reducible rfl | with_reducible exact True.intro | with_reducible assumption | refine parkI ?_ | exact g38 | (refine CallW.done (CallF.at c37 (by repeat' first | exact True.intro | assumption | refine ⟨?_, ?_⟩) (NLss_map' _)) ?_; conv => whnf) | (refine ⟨_, _, CallF.at c37 (by repeat' first | exact True.intro | assumption | refine ⟨?_, ?_⟩) (NLss_map' _), ?_⟩; conv => whnf) | (rw [i40]; conv => whnf) | (refine And.intro ?_ ?_ <;> conv => whnf) | fail
    refine parkE (fun hc => ?_) (fun hc => ?_)
    · replace b23 := condT hc b23
      conv => whnf
      repeat' first | with_reducible rfl | with_reducible exact True.intro | with_reducible assumption | refine parkI ?_ | (refine And.intro ?_ ?_ <;> conv => whnf) | fail
      have e := Option.some.inj b23
      refine LoopW.norm [(1, (LV.ptr 0 0 0)), (3, (I ((IntKind.i64.wrap (s23.1 + 1)), (IntKind.i64.wrap (s23.2 + 1))).1)), (4, (I ((IntKind.i64.wrap (s23.1 + 1)), (IntKind.i64.wrap (s23.2 + 1))).2))] 1 [(0, (.row 47 3 [[(I a0.Segs), (LV.ro 2 (a0.Plans.map PlanT.cells)), (LV.ro 2 (a0.Hosts.map HostT.cells))]]))] ⟨rfl, (by simp only [se_map, se_byL, se_len, se_ch, List.length_map] : ((I (IntKind.i64.wrap (s23.1 + 1))) : LV) = (I ((IntKind.i64.wrap (s23.1 + 1)), (IntKind.i64.wrap (s23.2 + 1))).1)), (by simp only [se_map, se_byL, se_len, se_ch, List.length_map] : ((I (IntKind.i64.wrap (s23.2 + 1))) : LV) = (I ((IntKind.i64.wrap (s23.1 + 1)), (IntKind.i64.wrap (s23.2 + 1))).2)), trivial⟩ ⟨⟨rfl, rfl, (by repeat' first | exact True.intro | exact rfl | exact NLs_bels (by assumption) | refine ⟨?_, ?_⟩)⟩, trivial⟩ (by repeat' first | exact True.intro | exact rfl | exact NLs_bels (by assumption) | refine ⟨?_, ?_⟩) rfl (K23 _ e.symm)
    · replace b23 := condF hc b23
      conv => whnf
      repeat' first | with_reducible rfl | with_reducible exact True.intro | with_reducible assumption | refine parkI ?_ | (refine And.intro ?_ ?_ <;> conv => whnf) | fail
      have e := Option.some.inj b23
      refine LoopW.norm [(1, (LV.ptr 0 0 0)), (3, (I (s23.1, (IntKind.i64.wrap (s23.2 + 1))).1)), (4, (I (s23.1, (IntKind.i64.wrap (s23.2 + 1))).2))] 1 [(0, (.row 47 3 [[(I a0.Segs), (LV.ro 2 (a0.Plans.map PlanT.cells)), (LV.ro 2 (a0.Hosts.map HostT.cells))]]))] ⟨rfl, (by simp only [se_map, se_byL, se_len, se_ch, List.length_map] : ((I s23.1) : LV) = (I (s23.1, (IntKind.i64.wrap (s23.2 + 1))).1)), (by simp only [se_map, se_byL, se_len, se_ch, List.length_map] : ((I (IntKind.i64.wrap (s23.2 + 1))) : LV) = (I (s23.1, (IntKind.i64.wrap (s23.2 + 1))).2)), trivial⟩ ⟨⟨rfl, rfl, (by repeat' first | exact True.intro | exact rfl | exact NLs_bels (by assumption) | refine ⟨?_, ?_⟩)⟩, trivial⟩ (by repeat' first | exact True.intro | exact rfl | exact NLs_bels (by assumption) | refine ⟨?_, ?_⟩) rfl (K23 _ e.symm)
  · replace b23 := condF hc b23
    conv => whnf
    have e := Option.some.inj b23
    replace e := hbrk23 _ e.symm
    rw [e] at r23
    dsimp only [aftM] at r23
    have e := Option.some.inj r23
    subst e
    repeat' first | with_reducible rfl | with_reducible exact True.intro | with_reducible assumption | exact (congrArg Bool.not h) | exact fun _ => True.intro | exact (rfl : (_ : Nat) = _) | exact (rfl : (_ : LV) = _) | exact NLss_map' _ | refine NLss_app ?_ ?_ | refine NLss_rep ?_ | refine NLss_set ?_ ?_ | refine NLss_take ?_ | refine NLss_drop ?_ | (refine And.intro ?_ ?_ <;> conv => whnf) | (intro h; (conv => whnf) <;> first | with_reducible rfl | assumption | exact h | exact (congrArg Bool.not h) | (refine ⟨h, True.intro⟩) | (refine ⟨congrArg Bool.not h, True.intro⟩) | (refine ⟨by assumption, True.intro⟩)) | (intro h; exact (Bool.false_ne_true (h.symm.trans (by assumption))).elim) | (intro h; exact (Bool.false_ne_true (Eq.trans (Eq.symm (by assumption)) h)).elim) | (intros; simp_all; done) | (intros; exfalso; simp_all; done) | (refine gand ?_ h; assumption) | (simp only [se_map, se_byL]; exact rfl) | (simp only [se_map, se_byL, se_len, se_ch, List.length_map]; done) | fail

def ref15_Loops_b28  (k28 : Nat) (x28 : LinkT) (s28 : Int) : Option (Step (Step Int Int) Int) :=
  (bif x28.Up then
    some (.nxt (IntKind.i64.wrap (s28 + 1)))
  else
    some (.nxt s28))

def ref15_Loops_b27  (k27 : Nat) (x27 : PlanT) (s27 : Int) : Option (Step Int Int) :=
  aft (rangeL (ref15_Loops_b28 ) x27.Ports 0) fun s28 =>
  some (.nxt (IntKind.i64.wrap ((IntKind.i64.wrap (s27 + s28)) - (mn s28 1))))

def ref15_Loops (a0 : LanT) : Option Int :=
  (ref15_Parts a0).bind fun y41 =>
  aft (rangeL (ref15_Loops_b27 ) a0.Plans (IntKind.i64.wrap (y41 - a0.Segs))) fun s27 =>
  some s27

theorem c_ref15_Loops (a0 : LanT) (r : Int) (h : ref15_Loops a0 = some r) : CallP Try.prog 96 [(LV.agg [(I a0.Segs), (LV.ro 2 (a0.Plans.map PlanT.cells)), (LV.ro 2 (a0.Hosts.map HostT.cells))])] (I r) := by
  unfold ref15_Loops at h
  refine .intro (by repeat' first | exact True.intro | assumption | refine ⟨?_, ?_⟩) (.intro TT_ok Try.func96 rfl rfl [0, 1, 2, 3, 5, 6, 8, 15, 16, 17, 18, 22, 23, 24, 25, 29] rfl ?_)
  conv => whnf
  replace h := bindS h
  obtain ⟨y41, hy41, h⟩ := h
  have c42 := c_ref15_Parts a0 _ hy41
  repeat' first | with_reducible rfl | with_reducible exact True.intro | with_reducible assumption | refine parkI ?_ | (refine CallP.use c42 ?_; conv => whnf) | (refine ⟨_, _, CallP.at c42, ?_⟩; conv => whnf) | (refine ⟨_, fun _ => c42, ?_⟩; conv => whnf) | (refine W.drawn TT_ok hmix1 rfl ?_; conv => whnf) | exact (congrArg Bool.not h) | exact fun _ => True.intro | exact (rfl : (_ : Nat) = _) | exact (rfl : (_ : LV) = _) | exact NLss_map' _ | refine NLss_app ?_ ?_ | refine NLss_rep ?_ | refine NLss_set ?_ ?_ | refine NLss_take ?_ | refine NLss_drop ?_ | (refine And.intro ?_ ?_ <;> conv => whnf) | (intro h; (conv => whnf) <;> first | with_reducible rfl | assumption | exact h | exact (congrArg Bool.not h) | (refine ⟨h, True.intro⟩) | (refine ⟨congrArg Bool.not h, True.intro⟩) | (refine ⟨by assumption, True.intro⟩)) | (intro h; exact (Bool.false_ne_true (h.symm.trans (by assumption))).elim) | (intro h; exact (Bool.false_ne_true (Eq.trans (Eq.symm (by assumption)) h)).elim) | (intros; simp_all; done) | (intros; exfalso; simp_all; done) | (refine gand ?_ h; assumption) | (simp only [se_map, se_byL]; exact rfl) | (simp only [se_map, se_byL, se_len, se_ch, List.length_map]; done) | fail
  replace h := aftS h
  obtain ⟨O27, hO27, r27⟩ := h
  refine LoopW.norm [(3, (I (IntKind.i64.wrap (y41 - a0.Segs)))), (15, (LV.ro 2 (a0.Plans.map PlanT.cells))), (16, (I (((a0.Plans.map PlanT.cells).length : Nat) : Int))), (17, (I ((0 : Nat) : Int)))] 0 [] ⟨rfl, rfl, rfl, rfl, trivial⟩ trivial (by repeat' first | exact True.intro | exact rfl | exact NLs_bels (by assumption) | refine ⟨?_, ?_⟩) rfl ?_
  refine LoopW.forR (fun k27 s27 => [(3, (I s27)), (15, (LV.ro 2 (a0.Plans.map PlanT.cells))), (16, (I (((a0.Plans.map PlanT.cells).length : Nat) : Int))), (17, (I ((k27 : Nat) : Int)))]) (fun s27 => ⟨0, []⟩) hO27 (fun hl27 s27 hs27 => ?_) (fun hl27 k27 x27 s27 o27 hk27 hx27 b27 K27 hret27 hbrk27 => ?_)
  · rw [hs27] at r27
    dsimp only [aftM] at r27
    have hd : decide (((a0.Plans.length : Nat) : Int) < (((a0.Plans.map PlanT.cells).length : Nat) : Int)) = false := by rw [decide_eq_false_iff_not]; (try simp only [se_len, se_ch, List.length_map]); omega
    refine LoopW.round TT_ok [0, 1, 2, 3, 5, 6, 8, 15, 16, 17, 18, 22, 23, 24, 25, 29] ?_
    conv => whnf
    repeat' first | with_reducible rfl | with_reducible exact True.intro | with_reducible assumption | refine parkI ?_ | (refine W.drawn TT_ok hmix1 rfl ?_; conv => whnf) | exact (congrArg Bool.not h) | exact fun _ => True.intro | exact (rfl : (_ : Nat) = _) | exact (rfl : (_ : LV) = _) | exact NLss_map' _ | refine NLss_app ?_ ?_ | refine NLss_rep ?_ | refine NLss_set ?_ ?_ | refine NLss_take ?_ | refine NLss_drop ?_ | (refine And.intro ?_ ?_ <;> conv => whnf) | (intro h; (conv => whnf) <;> first | with_reducible rfl | assumption | exact h | exact (congrArg Bool.not h) | (refine ⟨h, True.intro⟩) | (refine ⟨congrArg Bool.not h, True.intro⟩) | (refine ⟨by assumption, True.intro⟩)) | (intro h; exact (Bool.false_ne_true (h.symm.trans (by assumption))).elim) | (intro h; exact (Bool.false_ne_true (Eq.trans (Eq.symm (by assumption)) h)).elim) | (intros; simp_all; done) | (intros; exfalso; simp_all; done) | (refine gand ?_ h; assumption) | (simp only [se_map, se_byL]; exact rfl) | (simp only [se_map, se_byL, se_len, se_ch, List.length_map]; done) | fail
    refine parkE (fun hc => ?_) (fun hc => ?_)
    · exact (Bool.false_ne_true (hd.symm.trans hc)).elim
    · clear hd
      conv => whnf
      have e := Option.some.inj r27
      subst e
      repeat' first | with_reducible rfl | with_reducible exact True.intro | with_reducible assumption | (refine W.drawn TT_ok hmix1 rfl ?_; conv => whnf) | exact (congrArg Bool.not h) | exact fun _ => True.intro | exact (rfl : (_ : Nat) = _) | exact (rfl : (_ : LV) = _) | exact NLss_map' _ | refine NLss_app ?_ ?_ | refine NLss_rep ?_ | refine NLss_set ?_ ?_ | refine NLss_take ?_ | refine NLss_drop ?_ | (refine And.intro ?_ ?_ <;> conv => whnf) | (intro h; (conv => whnf) <;> first | with_reducible rfl | assumption | exact h | exact (congrArg Bool.not h) | (refine ⟨h, True.intro⟩) | (refine ⟨congrArg Bool.not h, True.intro⟩) | (refine ⟨by assumption, True.intro⟩)) | (intro h; exact (Bool.false_ne_true (h.symm.trans (by assumption))).elim) | (intro h; exact (Bool.false_ne_true (Eq.trans (Eq.symm (by assumption)) h)).elim) | (intros; simp_all; done) | (intros; exfalso; simp_all; done) | (refine gand ?_ h; assumption) | (simp only [se_map, se_byL]; exact rfl) | (simp only [se_map, se_byL, se_len, se_ch, List.length_map]; done) | fail
  · unfold ref15_Loops_b27 at b27
    have hd : decide (((k27 : Nat) : Int) < (((a0.Plans.map PlanT.cells).length : Nat) : Int)) = true := by rw [decide_eq_true_eq]; (try simp only [se_len, se_ch, List.length_map] at hk27); (try simp only [se_len, se_ch, List.length_map]); omega
    refine LoopW.round TT_ok [0, 1, 2, 3, 5, 6, 8, 15, 16, 17, 18, 22, 23, 24, 25, 29] ?_
    conv => whnf
    repeat' first | with_reducible rfl | with_reducible exact True.intro | with_reducible assumption | refine parkI ?_ | (refine W.drawn TT_ok hmix1 rfl ?_; conv => whnf) | exact (congrArg Bool.not h) | exact fun _ => True.intro | exact (rfl : (_ : Nat) = _) | exact (rfl : (_ : LV) = _) | exact NLss_map' _ | refine NLss_app ?_ ?_ | refine NLss_rep ?_ | refine NLss_set ?_ ?_ | refine NLss_take ?_ | refine NLss_drop ?_ | (refine And.intro ?_ ?_ <;> conv => whnf) | (intro h; (conv => whnf) <;> first | with_reducible rfl | assumption | exact h | exact (congrArg Bool.not h) | (refine ⟨h, True.intro⟩) | (refine ⟨congrArg Bool.not h, True.intro⟩) | (refine ⟨by assumption, True.intro⟩)) | (intro h; exact (Bool.false_ne_true (h.symm.trans (by assumption))).elim) | (intro h; exact (Bool.false_ne_true (Eq.trans (Eq.symm (by assumption)) h)).elim) | (intros; simp_all; done) | (intros; exfalso; simp_all; done) | (refine gand ?_ h; assumption) | (simp only [se_map, se_byL]; exact rfl) | (simp only [se_map, se_byL, se_len, se_ch, List.length_map]; done) | fail
    refine parkE (fun hc => ?_) (fun hc => ?_)
    · clear hd
      conv => whnf
      repeat' first | with_reducible rfl | with_reducible exact True.intro | with_reducible assumption | refine parkI ?_ | (refine ⟨_, (kixF (f := PlanT.cells) hx27), ?_⟩; conv => whnf) | (refine W.drawn TT_ok hmix1 rfl ?_; conv => whnf) | exact (congrArg Bool.not h) | exact fun _ => True.intro | exact (rfl : (_ : Nat) = _) | exact (rfl : (_ : LV) = _) | exact NLss_map' _ | refine NLss_app ?_ ?_ | refine NLss_rep ?_ | refine NLss_set ?_ ?_ | refine NLss_take ?_ | refine NLss_drop ?_ | (refine And.intro ?_ ?_ <;> conv => whnf) | (intro h; (conv => whnf) <;> first | with_reducible rfl | assumption | exact h | exact (congrArg Bool.not h) | (refine ⟨h, True.intro⟩) | (refine ⟨congrArg Bool.not h, True.intro⟩) | (refine ⟨by assumption, True.intro⟩)) | (intro h; exact (Bool.false_ne_true (h.symm.trans (by assumption))).elim) | (intro h; exact (Bool.false_ne_true (Eq.trans (Eq.symm (by assumption)) h)).elim) | (intros; simp_all; done) | (intros; exfalso; simp_all; done) | (refine gand ?_ h; assumption) | (simp only [se_map, se_byL]; exact rfl) | (simp only [se_map, se_byL, se_len, se_ch, List.length_map]; done) | fail
      replace b27 := aftS b27
      obtain ⟨O28, hO28, r28⟩ := b27
      refine LoopW.norm [(3, (I s27)), (6, (I 0)), (15, (LV.ro 2 (a0.Plans.map PlanT.cells))), (16, (I (((a0.Plans.map PlanT.cells).length : Nat) : Int))), (17, (I ((k27 : Nat) : Int))), (22, (LV.ro 3 (x27.Ports.map LinkT.cells))), (23, (I (((x27.Ports.map LinkT.cells).length : Nat) : Int))), (24, (I ((0 : Nat) : Int)))] 0 [] ⟨rfl, rfl, rfl, rfl, rfl, rfl, rfl, rfl, trivial⟩ trivial (by repeat' first | exact True.intro | exact rfl | exact NLs_bels (by assumption) | refine ⟨?_, ?_⟩) rfl ?_
      refine LoopW.forR (fun k28 s28 => [(3, (I s27)), (6, (I s28)), (15, (LV.ro 2 (a0.Plans.map PlanT.cells))), (16, (I (((a0.Plans.map PlanT.cells).length : Nat) : Int))), (17, (I ((k27 : Nat) : Int))), (22, (LV.ro 3 (x27.Ports.map LinkT.cells))), (23, (I (((x27.Ports.map LinkT.cells).length : Nat) : Int))), (24, (I ((k28 : Nat) : Int)))]) (fun s28 => ⟨0, []⟩) hO28 (fun hl28 s28 hs28 => ?_) (fun hl28 k28 x28 s28 o28 hk28 hx28 b28 K28 hret28 hbrk28 => ?_)
      · rw [hs28] at r28
        dsimp only [aftM] at r28
        have hd : decide (((x27.Ports.length : Nat) : Int) < (((x27.Ports.map LinkT.cells).length : Nat) : Int)) = false := by rw [decide_eq_false_iff_not]; (try simp only [se_len, se_ch, List.length_map]); omega
        refine LoopW.round TT_ok [0, 1, 2, 3, 5, 6, 8, 15, 16, 17, 18, 22, 23, 24, 25, 29] ?_
        conv => whnf
        repeat' first | with_reducible rfl | with_reducible exact True.intro | with_reducible assumption | refine parkI ?_ | (refine W.drawn TT_ok hmix1 rfl ?_; conv => whnf) | exact (congrArg Bool.not h) | exact fun _ => True.intro | exact (rfl : (_ : Nat) = _) | exact (rfl : (_ : LV) = _) | exact NLss_map' _ | refine NLss_app ?_ ?_ | refine NLss_rep ?_ | refine NLss_set ?_ ?_ | refine NLss_take ?_ | refine NLss_drop ?_ | (refine And.intro ?_ ?_ <;> conv => whnf) | (intro h; (conv => whnf) <;> first | with_reducible rfl | assumption | exact h | exact (congrArg Bool.not h) | (refine ⟨h, True.intro⟩) | (refine ⟨congrArg Bool.not h, True.intro⟩) | (refine ⟨by assumption, True.intro⟩)) | (intro h; exact (Bool.false_ne_true (h.symm.trans (by assumption))).elim) | (intro h; exact (Bool.false_ne_true (Eq.trans (Eq.symm (by assumption)) h)).elim) | (intros; simp_all; done) | (intros; exfalso; simp_all; done) | (refine gand ?_ h; assumption) | (simp only [se_map, se_byL]; exact rfl) | (simp only [se_map, se_byL, se_len, se_ch, List.length_map]; done) | fail
        refine parkE (fun hc => ?_) (fun hc => ?_)
        · exact (Bool.false_ne_true (hd.symm.trans hc)).elim
        · clear hd
          conv => whnf
          repeat' first | with_reducible rfl | with_reducible exact True.intro | with_reducible assumption | refine parkI ?_ | (refine W.drawn TT_ok hmix1 rfl ?_; conv => whnf) | exact (congrArg Bool.not h) | exact fun _ => True.intro | exact (rfl : (_ : Nat) = _) | exact (rfl : (_ : LV) = _) | exact NLss_map' _ | refine NLss_app ?_ ?_ | refine NLss_rep ?_ | refine NLss_set ?_ ?_ | refine NLss_take ?_ | refine NLss_drop ?_ | (refine And.intro ?_ ?_ <;> conv => whnf) | (intro h; (conv => whnf) <;> first | with_reducible rfl | assumption | exact h | exact (congrArg Bool.not h) | (refine ⟨h, True.intro⟩) | (refine ⟨congrArg Bool.not h, True.intro⟩) | (refine ⟨by assumption, True.intro⟩)) | (intro h; exact (Bool.false_ne_true (h.symm.trans (by assumption))).elim) | (intro h; exact (Bool.false_ne_true (Eq.trans (Eq.symm (by assumption)) h)).elim) | (intros; simp_all; done) | (intros; exfalso; simp_all; done) | (refine gand ?_ h; assumption) | (simp only [se_map, se_byL]; exact rfl) | (simp only [se_map, se_byL, se_len, se_ch, List.length_map]; done) | fail
          have e := Option.some.inj r28
          refine LoopW.norm [(3, (I (IntKind.i64.wrap ((IntKind.i64.wrap (s27 + s28)) - (mn s28 1))))), (15, (LV.ro 2 (a0.Plans.map PlanT.cells))), (16, (I (((a0.Plans.map PlanT.cells).length : Nat) : Int))), (17, (I ((k27 + 1 : Nat) : Int)))] 0 [] ⟨rfl, rfl, rfl, (congrArg (LV.int .i64) (w64_nat _ (by omega))), trivial⟩ trivial (by repeat' first | exact True.intro | exact rfl | exact NLs_bels (by assumption) | refine ⟨?_, ?_⟩) rfl (K27 _ e.symm)
      · unfold ref15_Loops_b28 at b28
        have hd : decide (((k28 : Nat) : Int) < (((x27.Ports.map LinkT.cells).length : Nat) : Int)) = true := by rw [decide_eq_true_eq]; (try simp only [se_len, se_ch, List.length_map] at hk28); (try simp only [se_len, se_ch, List.length_map]); omega
        refine LoopW.round TT_ok [0, 1, 2, 3, 5, 6, 8, 15, 16, 17, 18, 22, 23, 24, 25, 29] ?_
        conv => whnf
        repeat' first | with_reducible rfl | with_reducible exact True.intro | with_reducible assumption | refine parkI ?_ | (refine W.drawn TT_ok hmix1 rfl ?_; conv => whnf) | exact (congrArg Bool.not h) | exact fun _ => True.intro | exact (rfl : (_ : Nat) = _) | exact (rfl : (_ : LV) = _) | exact NLss_map' _ | refine NLss_app ?_ ?_ | refine NLss_rep ?_ | refine NLss_set ?_ ?_ | refine NLss_take ?_ | refine NLss_drop ?_ | (refine And.intro ?_ ?_ <;> conv => whnf) | (intro h; (conv => whnf) <;> first | with_reducible rfl | assumption | exact h | exact (congrArg Bool.not h) | (refine ⟨h, True.intro⟩) | (refine ⟨congrArg Bool.not h, True.intro⟩) | (refine ⟨by assumption, True.intro⟩)) | (intro h; exact (Bool.false_ne_true (h.symm.trans (by assumption))).elim) | (intro h; exact (Bool.false_ne_true (Eq.trans (Eq.symm (by assumption)) h)).elim) | (intros; simp_all; done) | (intros; exfalso; simp_all; done) | (refine gand ?_ h; assumption) | (simp only [se_map, se_byL]; exact rfl) | (simp only [se_map, se_byL, se_len, se_ch, List.length_map]; done) | fail
        refine parkE (fun hc => ?_) (fun hc => ?_)
        · clear hd
          conv => whnf
          repeat' first | with_reducible rfl | with_reducible exact True.intro | with_reducible assumption | refine parkI ?_ | (refine ⟨_, (kixF (f := LinkT.cells) hx28), ?_⟩; conv => whnf) | (refine W.drawn TT_ok hmix1 rfl ?_; conv => whnf) | exact (congrArg Bool.not h) | exact fun _ => True.intro | exact (rfl : (_ : Nat) = _) | exact (rfl : (_ : LV) = _) | exact NLss_map' _ | refine NLss_app ?_ ?_ | refine NLss_rep ?_ | refine NLss_set ?_ ?_ | refine NLss_take ?_ | refine NLss_drop ?_ | (refine And.intro ?_ ?_ <;> conv => whnf) | (intro h; (conv => whnf) <;> first | with_reducible rfl | assumption | exact h | exact (congrArg Bool.not h) | (refine ⟨h, True.intro⟩) | (refine ⟨congrArg Bool.not h, True.intro⟩) | (refine ⟨by assumption, True.intro⟩)) | (intro h; exact (Bool.false_ne_true (h.symm.trans (by assumption))).elim) | (intro h; exact (Bool.false_ne_true (Eq.trans (Eq.symm (by assumption)) h)).elim) | (intros; simp_all; done) | (intros; exfalso; simp_all; done) | (refine gand ?_ h; assumption) | (simp only [se_map, se_byL]; exact rfl) | (simp only [se_map, se_byL, se_len, se_ch, List.length_map]; done) | fail
          refine parkE (fun hc => ?_) (fun hc => ?_)
          · replace b28 := condT hc b28
            conv => whnf
            repeat' first | with_reducible rfl | with_reducible exact True.intro | with_reducible assumption | refine parkI ?_ | (refine W.drawn TT_ok hmix1 rfl ?_; conv => whnf) | exact (congrArg Bool.not h) | exact fun _ => True.intro | exact (rfl : (_ : Nat) = _) | exact (rfl : (_ : LV) = _) | exact NLss_map' _ | refine NLss_app ?_ ?_ | refine NLss_rep ?_ | refine NLss_set ?_ ?_ | refine NLss_take ?_ | refine NLss_drop ?_ | (refine And.intro ?_ ?_ <;> conv => whnf) | (intro h; (conv => whnf) <;> first | with_reducible rfl | assumption | exact h | exact (congrArg Bool.not h) | (refine ⟨h, True.intro⟩) | (refine ⟨congrArg Bool.not h, True.intro⟩) | (refine ⟨by assumption, True.intro⟩)) | (intro h; exact (Bool.false_ne_true (h.symm.trans (by assumption))).elim) | (intro h; exact (Bool.false_ne_true (Eq.trans (Eq.symm (by assumption)) h)).elim) | (intros; simp_all; done) | (intros; exfalso; simp_all; done) | (refine gand ?_ h; assumption) | (simp only [se_map, se_byL]; exact rfl) | (simp only [se_map, se_byL, se_len, se_ch, List.length_map]; done) | fail
            have e := Option.some.inj b28
            refine LoopW.norm [(3, (I s27)), (6, (I (IntKind.i64.wrap (s28 + 1)))), (15, (LV.ro 2 (a0.Plans.map PlanT.cells))), (16, (I (((a0.Plans.map PlanT.cells).length : Nat) : Int))), (17, (I ((k27 : Nat) : Int))), (22, (LV.ro 3 (x27.Ports.map LinkT.cells))), (23, (I (((x27.Ports.map LinkT.cells).length : Nat) : Int))), (24, (I ((k28 + 1 : Nat) : Int)))] 0 [] ⟨rfl, rfl, rfl, rfl, rfl, rfl, rfl, (congrArg (LV.int .i64) (w64_nat _ (by omega))), trivial⟩ trivial (by repeat' first | exact True.intro | exact rfl | exact NLs_bels (by assumption) | refine ⟨?_, ?_⟩) rfl (K28 _ e.symm)
          · replace b28 := condF hc b28
            conv => whnf
            repeat' first | with_reducible rfl | with_reducible exact True.intro | with_reducible assumption | refine parkI ?_ | (refine W.drawn TT_ok hmix1 rfl ?_; conv => whnf) | exact (congrArg Bool.not h) | exact fun _ => True.intro | exact (rfl : (_ : Nat) = _) | exact (rfl : (_ : LV) = _) | exact NLss_map' _ | refine NLss_app ?_ ?_ | refine NLss_rep ?_ | refine NLss_set ?_ ?_ | refine NLss_take ?_ | refine NLss_drop ?_ | (refine And.intro ?_ ?_ <;> conv => whnf) | (intro h; (conv => whnf) <;> first | with_reducible rfl | assumption | exact h | exact (congrArg Bool.not h) | (refine ⟨h, True.intro⟩) | (refine ⟨congrArg Bool.not h, True.intro⟩) | (refine ⟨by assumption, True.intro⟩)) | (intro h; exact (Bool.false_ne_true (h.symm.trans (by assumption))).elim) | (intro h; exact (Bool.false_ne_true (Eq.trans (Eq.symm (by assumption)) h)).elim) | (intros; simp_all; done) | (intros; exfalso; simp_all; done) | (refine gand ?_ h; assumption) | (simp only [se_map, se_byL]; exact rfl) | (simp only [se_map, se_byL, se_len, se_ch, List.length_map]; done) | fail
            have e := Option.some.inj b28
            refine LoopW.norm [(3, (I s27)), (6, (I s28)), (15, (LV.ro 2 (a0.Plans.map PlanT.cells))), (16, (I (((a0.Plans.map PlanT.cells).length : Nat) : Int))), (17, (I ((k27 : Nat) : Int))), (22, (LV.ro 3 (x27.Ports.map LinkT.cells))), (23, (I (((x27.Ports.map LinkT.cells).length : Nat) : Int))), (24, (I ((k28 + 1 : Nat) : Int)))] 0 [] ⟨rfl, rfl, rfl, rfl, rfl, rfl, rfl, (congrArg (LV.int .i64) (w64_nat _ (by omega))), trivial⟩ trivial (by repeat' first | exact True.intro | exact rfl | exact NLs_bels (by assumption) | refine ⟨?_, ?_⟩) rfl (K28 _ e.symm)
        · exact (Bool.false_ne_true (hc.symm.trans hd)).elim
    · exact (Bool.false_ne_true (hc.symm.trans hd)).elim

def ref15_Stations_b29 (a1 : (List HostT)) (k29 : Nat) (x29 : HostT) (s29 : Unit) : Option (Step Bool Unit) :=
  (gix a1 ((k29 : Nat) : Int)).bind fun v43 =>
  (bif (!((decide (x29.Mac = v43.Mac)) && ((decide (x29.Seg = v43.Seg)) && true))) then
    some (.ret false)
  else
    some (.nxt ()))

def ref15_Stations (a0 : (List HostT)) (a1 : (List HostT)) : Option Bool :=
  (bif (!decide (((a0.length : Nat) : Int) = ((a1.length : Nat) : Int))) then
    some false
  else
    aft (rangeL (ref15_Stations_b29 a1) a0 ()) fun s29 =>
    some true)

theorem c_ref15_Stations (a0 : (List HostT)) (a1 : (List HostT)) (r : Bool) (h : ref15_Stations a0 a1 = some r) : CallP Try.prog 97 [(LV.ro 2 (a0.map HostT.cells)), (LV.ro 2 (a1.map HostT.cells))] (LV.bool r) := by
  unfold ref15_Stations at h
  refine .intro (by repeat' first | exact True.intro | assumption | refine ⟨?_, ?_⟩) (.intro TT_ok Try.func97 rfl rfl [0, 1, 4, 5, 10, 12, 13, 14, 24] rfl ?_)
  conv => whnf
  repeat' first | with_reducible rfl | with_reducible exact True.intro | with_reducible assumption | refine parkI ?_ | (refine W.drawn TT_ok hmix1 rfl ?_; conv => whnf) | exact (congrArg Bool.not h) | exact fun _ => True.intro | exact (rfl : (_ : Nat) = _) | exact (rfl : (_ : LV) = _) | exact NLss_map' _ | refine NLss_app ?_ ?_ | refine NLss_rep ?_ | refine NLss_set ?_ ?_ | refine NLss_take ?_ | refine NLss_drop ?_ | (refine And.intro ?_ ?_ <;> conv => whnf) | (intro h; (conv => whnf) <;> first | with_reducible rfl | assumption | exact h | exact (congrArg Bool.not h) | (refine ⟨h, True.intro⟩) | (refine ⟨congrArg Bool.not h, True.intro⟩) | (refine ⟨by assumption, True.intro⟩)) | (intro h; exact (Bool.false_ne_true (h.symm.trans (by assumption))).elim) | (intro h; exact (Bool.false_ne_true (Eq.trans (Eq.symm (by assumption)) h)).elim) | (intros; simp_all; done) | (intros; exfalso; simp_all; done) | (refine gand ?_ h; assumption) | (simp only [se_map, se_byL]; exact rfl) | (simp only [se_map, se_byL, se_len, se_ch, List.length_map]; done) | fail
  refine parkE (fun hc => ?_) (fun hc => ?_)
  · replace h := condT (by first | exact hc | simpa only [se_len, se_ch, List.length_map] using hc) h
    conv => whnf
    have e := Option.some.inj h
    subst e
    repeat' first | with_reducible rfl | with_reducible exact True.intro | with_reducible assumption | (refine W.drawn TT_ok hmix1 rfl ?_; conv => whnf) | exact (congrArg Bool.not h) | exact fun _ => True.intro | exact (rfl : (_ : Nat) = _) | exact (rfl : (_ : LV) = _) | exact NLss_map' _ | refine NLss_app ?_ ?_ | refine NLss_rep ?_ | refine NLss_set ?_ ?_ | refine NLss_take ?_ | refine NLss_drop ?_ | (refine And.intro ?_ ?_ <;> conv => whnf) | (intro h; (conv => whnf) <;> first | with_reducible rfl | assumption | exact h | exact (congrArg Bool.not h) | (refine ⟨h, True.intro⟩) | (refine ⟨congrArg Bool.not h, True.intro⟩) | (refine ⟨by assumption, True.intro⟩)) | (intro h; exact (Bool.false_ne_true (h.symm.trans (by assumption))).elim) | (intro h; exact (Bool.false_ne_true (Eq.trans (Eq.symm (by assumption)) h)).elim) | (intros; simp_all; done) | (intros; exfalso; simp_all; done) | (refine gand ?_ h; assumption) | (simp only [se_map, se_byL]; exact rfl) | (simp only [se_map, se_byL, se_len, se_ch, List.length_map]; done) | fail
  · replace h := condF (by first | exact hc | simpa only [se_len, se_ch, List.length_map] using hc) h
    conv => whnf
    repeat' first | with_reducible rfl | with_reducible exact True.intro | with_reducible assumption | refine parkI ?_ | (refine W.drawn TT_ok hmix1 rfl ?_; conv => whnf) | exact (congrArg Bool.not h) | exact fun _ => True.intro | exact (rfl : (_ : Nat) = _) | exact (rfl : (_ : LV) = _) | exact NLss_map' _ | refine NLss_app ?_ ?_ | refine NLss_rep ?_ | refine NLss_set ?_ ?_ | refine NLss_take ?_ | refine NLss_drop ?_ | (refine And.intro ?_ ?_ <;> conv => whnf) | (intro h; (conv => whnf) <;> first | with_reducible rfl | assumption | exact h | exact (congrArg Bool.not h) | (refine ⟨h, True.intro⟩) | (refine ⟨congrArg Bool.not h, True.intro⟩) | (refine ⟨by assumption, True.intro⟩)) | (intro h; exact (Bool.false_ne_true (h.symm.trans (by assumption))).elim) | (intro h; exact (Bool.false_ne_true (Eq.trans (Eq.symm (by assumption)) h)).elim) | (intros; simp_all; done) | (intros; exfalso; simp_all; done) | (refine gand ?_ h; assumption) | (simp only [se_map, se_byL]; exact rfl) | (simp only [se_map, se_byL, se_len, se_ch, List.length_map]; done) | fail
    replace h := aftS h
    obtain ⟨O29, hO29, r29⟩ := h
    refine LoopW.norm [(0, (LV.ro 2 (a0.map HostT.cells))), (1, (LV.ro 2 (a1.map HostT.cells))), (12, (I (((a0.map HostT.cells).length : Nat) : Int))), (13, (I ((0 : Nat) : Int)))] 0 [] ⟨rfl, rfl, rfl, rfl, trivial⟩ trivial (by repeat' first | exact True.intro | exact rfl | exact NLs_bels (by assumption) | refine ⟨?_, ?_⟩) rfl ?_
    refine LoopW.forR (fun k29 s29 => [(0, (LV.ro 2 (a0.map HostT.cells))), (1, (LV.ro 2 (a1.map HostT.cells))), (12, (I (((a0.map HostT.cells).length : Nat) : Int))), (13, (I ((k29 : Nat) : Int)))]) (fun s29 => ⟨0, []⟩) hO29 (fun hl29 s29 hs29 => ?_) (fun hl29 k29 x29 s29 o29 hk29 hx29 b29 K29 hret29 hbrk29 => ?_)
    · rw [hs29] at r29
      dsimp only [aftM] at r29
      have hd : decide (((a0.length : Nat) : Int) < (((a0.map HostT.cells).length : Nat) : Int)) = false := by rw [decide_eq_false_iff_not]; (try simp only [se_len, se_ch, List.length_map]); omega
      refine LoopW.round TT_ok [0, 1, 4, 5, 10, 12, 13, 14, 24] ?_
      conv => whnf
      repeat' first | with_reducible rfl | with_reducible exact True.intro | with_reducible assumption | refine parkI ?_ | (refine W.drawn TT_ok hmix1 rfl ?_; conv => whnf) | exact (congrArg Bool.not h) | exact fun _ => True.intro | exact (rfl : (_ : Nat) = _) | exact (rfl : (_ : LV) = _) | exact NLss_map' _ | refine NLss_app ?_ ?_ | refine NLss_rep ?_ | refine NLss_set ?_ ?_ | refine NLss_take ?_ | refine NLss_drop ?_ | (refine And.intro ?_ ?_ <;> conv => whnf) | (intro h; (conv => whnf) <;> first | with_reducible rfl | assumption | exact h | exact (congrArg Bool.not h) | (refine ⟨h, True.intro⟩) | (refine ⟨congrArg Bool.not h, True.intro⟩) | (refine ⟨by assumption, True.intro⟩)) | (intro h; exact (Bool.false_ne_true (h.symm.trans (by assumption))).elim) | (intro h; exact (Bool.false_ne_true (Eq.trans (Eq.symm (by assumption)) h)).elim) | (intros; simp_all; done) | (intros; exfalso; simp_all; done) | (refine gand ?_ h; assumption) | (simp only [se_map, se_byL]; exact rfl) | (simp only [se_map, se_byL, se_len, se_ch, List.length_map]; done) | fail
      refine parkE (fun hc => ?_) (fun hc => ?_)
      · exact (Bool.false_ne_true (hd.symm.trans hc)).elim
      · clear hd
        conv => whnf
        have e := Option.some.inj r29
        subst e
        repeat' first | with_reducible rfl | with_reducible exact True.intro | with_reducible assumption | (refine W.drawn TT_ok hmix1 rfl ?_; conv => whnf) | exact (congrArg Bool.not h) | exact fun _ => True.intro | exact (rfl : (_ : Nat) = _) | exact (rfl : (_ : LV) = _) | exact NLss_map' _ | refine NLss_app ?_ ?_ | refine NLss_rep ?_ | refine NLss_set ?_ ?_ | refine NLss_take ?_ | refine NLss_drop ?_ | (refine And.intro ?_ ?_ <;> conv => whnf) | (intro h; (conv => whnf) <;> first | with_reducible rfl | assumption | exact h | exact (congrArg Bool.not h) | (refine ⟨h, True.intro⟩) | (refine ⟨congrArg Bool.not h, True.intro⟩) | (refine ⟨by assumption, True.intro⟩)) | (intro h; exact (Bool.false_ne_true (h.symm.trans (by assumption))).elim) | (intro h; exact (Bool.false_ne_true (Eq.trans (Eq.symm (by assumption)) h)).elim) | (intros; simp_all; done) | (intros; exfalso; simp_all; done) | (refine gand ?_ h; assumption) | (simp only [se_map, se_byL]; exact rfl) | (simp only [se_map, se_byL, se_len, se_ch, List.length_map]; done) | fail
    · unfold ref15_Stations_b29 at b29
      have hd : decide (((k29 : Nat) : Int) < (((a0.map HostT.cells).length : Nat) : Int)) = true := by rw [decide_eq_true_eq]; (try simp only [se_len, se_ch, List.length_map] at hk29); (try simp only [se_len, se_ch, List.length_map]); omega
      refine LoopW.round TT_ok [0, 1, 4, 5, 10, 12, 13, 14, 24] ?_
      conv => whnf
      repeat' first | with_reducible rfl | with_reducible exact True.intro | with_reducible assumption | refine parkI ?_ | (refine W.drawn TT_ok hmix1 rfl ?_; conv => whnf) | exact (congrArg Bool.not h) | exact fun _ => True.intro | exact (rfl : (_ : Nat) = _) | exact (rfl : (_ : LV) = _) | exact NLss_map' _ | refine NLss_app ?_ ?_ | refine NLss_rep ?_ | refine NLss_set ?_ ?_ | refine NLss_take ?_ | refine NLss_drop ?_ | (refine And.intro ?_ ?_ <;> conv => whnf) | (intro h; (conv => whnf) <;> first | with_reducible rfl | assumption | exact h | exact (congrArg Bool.not h) | (refine ⟨h, True.intro⟩) | (refine ⟨congrArg Bool.not h, True.intro⟩) | (refine ⟨by assumption, True.intro⟩)) | (intro h; exact (Bool.false_ne_true (h.symm.trans (by assumption))).elim) | (intro h; exact (Bool.false_ne_true (Eq.trans (Eq.symm (by assumption)) h)).elim) | (intros; simp_all; done) | (intros; exfalso; simp_all; done) | (refine gand ?_ h; assumption) | (simp only [se_map, se_byL]; exact rfl) | (simp only [se_map, se_byL, se_len, se_ch, List.length_map]; done) | fail
      refine parkE (fun hc => ?_) (fun hc => ?_)
      · clear hd
        conv => whnf
        replace b29 := bindS b29
        obtain ⟨v43, hv43, b29⟩ := b29
        have i44 := gixF (f := HostT.cells) hv43
        repeat' first | with_reducible rfl | with_reducible exact True.intro | with_reducible assumption | refine parkI ?_ | (refine ⟨_, (kixF (f := HostT.cells) hx29), ?_⟩; conv => whnf) | (refine ⟨_, i44, ?_⟩; conv => whnf) | (refine W.drawn TT_ok hmix1 rfl ?_; conv => whnf) | exact (congrArg Bool.not h) | exact fun _ => True.intro | exact (rfl : (_ : Nat) = _) | exact (rfl : (_ : LV) = _) | exact NLss_map' _ | refine NLss_app ?_ ?_ | refine NLss_rep ?_ | refine NLss_set ?_ ?_ | refine NLss_take ?_ | refine NLss_drop ?_ | (refine And.intro ?_ ?_ <;> conv => whnf) | (intro h; (conv => whnf) <;> first | with_reducible rfl | assumption | exact h | exact (congrArg Bool.not h) | (refine ⟨h, True.intro⟩) | (refine ⟨congrArg Bool.not h, True.intro⟩) | (refine ⟨by assumption, True.intro⟩)) | (intro h; exact (Bool.false_ne_true (h.symm.trans (by assumption))).elim) | (intro h; exact (Bool.false_ne_true (Eq.trans (Eq.symm (by assumption)) h)).elim) | (intros; simp_all; done) | (intros; exfalso; simp_all; done) | (refine gand ?_ h; assumption) | (simp only [se_map, se_byL]; exact rfl) | (simp only [se_map, se_byL, se_len, se_ch, List.length_map]; done) | fail
        refine parkE (fun hc => ?_) (fun hc => ?_)
        · replace b29 := condT hc b29
          conv => whnf
          have e := Option.some.inj b29
          replace e := hret29 _ e.symm
          rw [e] at r29
          replace e := Option.some.inj r29
          subst e
          repeat' first | with_reducible rfl | with_reducible exact True.intro | with_reducible assumption | (refine W.drawn TT_ok hmix1 rfl ?_; conv => whnf) | exact (congrArg Bool.not h) | exact fun _ => True.intro | exact (rfl : (_ : Nat) = _) | exact (rfl : (_ : LV) = _) | exact NLss_map' _ | refine NLss_app ?_ ?_ | refine NLss_rep ?_ | refine NLss_set ?_ ?_ | refine NLss_take ?_ | refine NLss_drop ?_ | (refine And.intro ?_ ?_ <;> conv => whnf) | (intro h; (conv => whnf) <;> first | with_reducible rfl | assumption | exact h | exact (congrArg Bool.not h) | (refine ⟨h, True.intro⟩) | (refine ⟨congrArg Bool.not h, True.intro⟩) | (refine ⟨by assumption, True.intro⟩)) | (intro h; exact (Bool.false_ne_true (h.symm.trans (by assumption))).elim) | (intro h; exact (Bool.false_ne_true (Eq.trans (Eq.symm (by assumption)) h)).elim) | (intros; simp_all; done) | (intros; exfalso; simp_all; done) | (refine gand ?_ h; assumption) | (simp only [se_map, se_byL]; exact rfl) | (simp only [se_map, se_byL, se_len, se_ch, List.length_map]; done) | fail
        · replace b29 := condF hc b29
          conv => whnf
          repeat' first | with_reducible rfl | with_reducible exact True.intro | with_reducible assumption | refine parkI ?_ | (refine W.drawn TT_ok hmix1 rfl ?_; conv => whnf) | exact (congrArg Bool.not h) | exact fun _ => True.intro | exact (rfl : (_ : Nat) = _) | exact (rfl : (_ : LV) = _) | exact NLss_map' _ | refine NLss_app ?_ ?_ | refine NLss_rep ?_ | refine NLss_set ?_ ?_ | refine NLss_take ?_ | refine NLss_drop ?_ | (refine And.intro ?_ ?_ <;> conv => whnf) | (intro h; (conv => whnf) <;> first | with_reducible rfl | assumption | exact h | exact (congrArg Bool.not h) | (refine ⟨h, True.intro⟩) | (refine ⟨congrArg Bool.not h, True.intro⟩) | (refine ⟨by assumption, True.intro⟩)) | (intro h; exact (Bool.false_ne_true (h.symm.trans (by assumption))).elim) | (intro h; exact (Bool.false_ne_true (Eq.trans (Eq.symm (by assumption)) h)).elim) | (intros; simp_all; done) | (intros; exfalso; simp_all; done) | (refine gand ?_ h; assumption) | (simp only [se_map, se_byL]; exact rfl) | (simp only [se_map, se_byL, se_len, se_ch, List.length_map]; done) | fail
          have e := Option.some.inj b29
          refine LoopW.norm [(0, (LV.ro 2 (a0.map HostT.cells))), (1, (LV.ro 2 (a1.map HostT.cells))), (12, (I (((a0.map HostT.cells).length : Nat) : Int))), (13, (I ((k29 + 1 : Nat) : Int)))] 0 [] ⟨rfl, rfl, rfl, (congrArg (LV.int .i64) (w64_nat _ (by omega))), trivial⟩ trivial (by repeat' first | exact True.intro | exact rfl | exact NLs_bels (by assumption) | refine ⟨?_, ?_⟩) rfl (K29 _ e.symm)
      · exact (Bool.false_ne_true (hc.symm.trans hd)).elim

def ref15_Hosts_b30 (a1 : Int) (k30 : Nat) (x30 : HostT) (s30 : (List HostT)) : Option (Step (List HostT) (List HostT)) :=
  (bif (decide (x30.Seg = a1)) then
    grd (fits ((s30 ++ ([x30] : (List HostT))) : List HostT).length 16) <|
    some (.nxt (s30 ++ ([x30] : (List HostT))))
  else
    some (.nxt s30))

def ref15_Hosts (a0 : LanT) (a1 : Int) : Option (List HostT) :=
  aft (rangeL (ref15_Hosts_b30 a1) a0.Hosts ([] : (List HostT))) fun s30 =>
  some s30

theorem cf_ref15_Hosts (a0 : LanT) (a1 : Int) (r : (List HostT)) (h : ref15_Hosts a0 a1 = some r) : CallF Try.prog 98 [(LV.agg [(I a0.Segs), (LV.ro 2 (a0.Plans.map PlanT.cells)), (LV.ro 2 (a0.Hosts.map HostT.cells))]), (I a1)] 147 2 (r.map HostT.cells) := by
  unfold ref15_Hosts at h
  refine CallF.of (NLss_map' _) (CallW.intro TT_ok Try.func98 rfl rfl [0, 1, 2, 4, 5, 7, 10, 11, 12, 13, 19] rfl ?_)
  conv => whnf
  repeat' first | with_reducible rfl | with_reducible exact True.intro | with_reducible assumption | refine parkI ?_ | (refine And.intro ?_ ?_ <;> conv => whnf) | fail
  replace h := aftS h
  obtain ⟨O30, hO30, r30⟩ := h
  refine LoopW.norm [(1, (I a1)), (5, (LV.sl 1 0 (([] : (List HostT)).map HostT.cells).length)), (10, (LV.ro 2 (a0.Hosts.map HostT.cells))), (11, (I (((a0.Hosts.map HostT.cells).length : Nat) : Int))), (12, (I ((0 : Nat) : Int)))] 2 [(1, (.row 147 2 (([] : (List HostT)).map HostT.cells)))] ⟨rfl, (by simp only [se_map, se_byL, se_len, se_ch, List.length_map] : ((LV.sl 1 0 0) : LV) = (LV.sl 1 0 (([] : (List HostT)).map HostT.cells).length)), rfl, rfl, rfl, trivial⟩ ⟨⟨(congrArg (fun q => some (Blk.row 147 2 q)) (by simp only [se_map, se_byL, se_len, se_ch, List.length_map] : (([] : List (List LV)) : List (List LV)) = (([] : (List HostT)).map HostT.cells))), rfl, NLss_bel (NLss_map' _)⟩, trivial⟩ (by repeat' first | exact True.intro | exact rfl | exact NLs_bels (by assumption) | refine ⟨?_, ?_⟩) rfl ?_
  refine LoopW.forR (fun k30 s30 => [(1, (I a1)), (5, (LV.sl 1 0 (s30.map HostT.cells).length)), (10, (LV.ro 2 (a0.Hosts.map HostT.cells))), (11, (I (((a0.Hosts.map HostT.cells).length : Nat) : Int))), (12, (I ((k30 : Nat) : Int)))]) (fun s30 => ⟨2, [(1, (.row 147 2 (s30.map HostT.cells)))]⟩) hO30 (fun hl30 s30 hs30 => ?_) (fun hl30 k30 x30 s30 o30 hk30 hx30 b30 K30 hret30 hbrk30 => ?_)
  · rw [hs30] at r30
    dsimp only [aftM] at r30
    have hd : decide (((a0.Hosts.length : Nat) : Int) < (((a0.Hosts.map HostT.cells).length : Nat) : Int)) = false := by rw [decide_eq_false_iff_not]; (try simp only [se_len, se_ch, List.length_map]); omega
    refine LoopW.round TT_ok [0, 1, 2, 4, 5, 7, 10, 11, 12, 13, 19] ?_
    conv => whnf
    repeat' first | with_reducible rfl | with_reducible exact True.intro | with_reducible assumption | refine parkI ?_ | (refine And.intro ?_ ?_ <;> conv => whnf) | fail
    refine parkE (fun hc => ?_) (fun hc => ?_)
    · exact (Bool.false_ne_true (hd.symm.trans hc)).elim
    · clear hd
      conv => whnf
      have e := Option.some.inj r30
      subst e
      repeat' first | with_reducible rfl | with_reducible exact True.intro | with_reducible assumption | exact Or.inr ⟨_, rfl, congrArg (fun q => some (Blk.row 147 2 q)) rfl⟩ | exact (congrArg Bool.not h) | exact fun _ => True.intro | exact (rfl : (_ : Nat) = _) | exact (rfl : (_ : LV) = _) | exact NLss_map' _ | refine NLss_app ?_ ?_ | refine NLss_rep ?_ | refine NLss_set ?_ ?_ | refine NLss_take ?_ | refine NLss_drop ?_ | (refine And.intro ?_ ?_ <;> conv => whnf) | (intro h; (conv => whnf) <;> first | with_reducible rfl | assumption | exact h | exact (congrArg Bool.not h) | (refine ⟨h, True.intro⟩) | (refine ⟨congrArg Bool.not h, True.intro⟩) | (refine ⟨by assumption, True.intro⟩)) | (intro h; exact (Bool.false_ne_true (h.symm.trans (by assumption))).elim) | (intro h; exact (Bool.false_ne_true (Eq.trans (Eq.symm (by assumption)) h)).elim) | (intros; simp_all; done) | (intros; exfalso; simp_all; done) | (refine gand ?_ h; assumption) | (simp only [se_map, se_byL]; exact rfl) | (simp only [se_map, se_byL, se_len, se_ch, List.length_map]; done) | fail
  · unfold ref15_Hosts_b30 at b30
    have hd : decide (((k30 : Nat) : Int) < (((a0.Hosts.map HostT.cells).length : Nat) : Int)) = true := by rw [decide_eq_true_eq]; (try simp only [se_len, se_ch, List.length_map] at hk30); (try simp only [se_len, se_ch, List.length_map]); omega
    refine LoopW.round TT_ok [0, 1, 2, 4, 5, 7, 10, 11, 12, 13, 19] ?_
    conv => whnf
    repeat' first | with_reducible rfl | with_reducible exact True.intro | with_reducible assumption | refine parkI ?_ | (refine And.intro ?_ ?_ <;> conv => whnf) | fail
    refine parkE (fun hc => ?_) (fun hc => ?_)
    · clear hd
      conv => whnf
      repeat' first | with_reducible rfl | with_reducible exact True.intro | with_reducible assumption | refine parkI ?_ | (refine ⟨_, (kixF (f := HostT.cells) hx30), ?_⟩; conv => whnf) | (refine And.intro ?_ ?_ <;> conv => whnf) | fail
      refine parkE (fun hc => ?_) (fun hc => ?_)
      · replace b30 := condT hc b30
        conv => whnf
        replace b30 := grdS b30
        obtain ⟨g45, b30⟩ := b30
        replace g45 : fits (((s30.map HostT.cells) ++ [[(I x30.Mac), (I x30.Seg)]])).length 16 := by simpa only [se_len, se_ch, List.length_map] using g45
        repeat' first | with_reducible rfl | with_reducible exact True.intro | with_reducible assumption | refine parkI ?_ | exact g45 | exact (rfl : (_ : Nat) = _) | exact NLss_map' _ | refine NLss_app ?_ ?_ | refine NLss_rep ?_ | refine NLss_set ?_ ?_ | refine NLss_take ?_ | refine NLss_drop ?_ | (refine And.intro ?_ ?_ <;> conv => whnf) | (simp only [se_map, se_byL]; exact rfl) | (simp only [se_map, se_byL, se_len, se_ch, List.length_map]; done) | fail
        have e := Option.some.inj b30
        refine LoopW.ren [(4, 1)] [(1, (I a1)), (5, (LV.sl 1 0 ((s30 ++ ([x30] : (List HostT))).map HostT.cells).length)), (10, (LV.ro 2 (a0.Hosts.map HostT.cells))), (11, (I (((a0.Hosts.map HostT.cells).length : Nat) : Int))), (12, (I ((k30 + 1 : Nat) : Int)))] 2 [(1, (.row 147 2 ((s30 ++ ([x30] : (List HostT))).map HostT.cells)))] rfl ⟨rfl, (by simp only [se_map, se_byL, se_len, se_ch, List.length_map] : ((LV.sl 1 0 (((s30.map HostT.cells) ++ [[(I x30.Mac), (I x30.Seg)]])).length) : LV) = (LV.sl 1 0 ((s30 ++ ([x30] : (List HostT))).map HostT.cells).length)), rfl, rfl, (congrArg (LV.int .i64) (w64_nat _ (by omega))), trivial⟩ ⟨⟨rfl, rfl, .inl ⟨(by simp only [se_map, se_byL, se_len, se_ch, List.length_map] : (((s30.map HostT.cells) ++ [[(I x30.Mac), (I x30.Seg)]]) : List (List LV)) = ((s30 ++ ([x30] : (List HostT))).map HostT.cells)), (by repeat' first | exact NLss_map' _ | refine NLss_app ?_ ?_ | refine NLss_set ?_ ?_ | refine NLss_rep ?_ | refine NLss_take ?_ | refine NLss_drop ?_ | exact True.intro | refine ⟨?_, ?_⟩)⟩⟩, rfl, rfl, trivial⟩ rfl (K30 _ e.symm)
      · replace b30 := condF hc b30
        conv => whnf
        repeat' first | with_reducible rfl | with_reducible exact True.intro | with_reducible assumption | refine parkI ?_ | (refine And.intro ?_ ?_ <;> conv => whnf) | fail
        have e := Option.some.inj b30
        refine LoopW.norm [(1, (I a1)), (5, (LV.sl 1 0 (s30.map HostT.cells).length)), (10, (LV.ro 2 (a0.Hosts.map HostT.cells))), (11, (I (((a0.Hosts.map HostT.cells).length : Nat) : Int))), (12, (I ((k30 + 1 : Nat) : Int)))] 2 [(1, (.row 147 2 (s30.map HostT.cells)))] ⟨rfl, rfl, rfl, rfl, (congrArg (LV.int .i64) (w64_nat _ (by omega))), trivial⟩ ⟨⟨rfl, rfl, NLss_bel (NLss_map' _)⟩, trivial⟩ (by repeat' first | exact True.intro | exact rfl | exact NLs_bels (by assumption) | refine ⟨?_, ?_⟩) rfl (K30 _ e.symm)
    · exact (Bool.false_ne_true (hc.symm.trans hd)).elim

theorem c_ref15_Hosts (a0 : LanT) (a1 : Int) (r : (List HostT)) (h : ref15_Hosts a0 a1 = some r) : CallP Try.prog 98 [(LV.agg [(I a0.Segs), (LV.ro 2 (a0.Plans.map PlanT.cells)), (LV.ro 2 (a0.Hosts.map HostT.cells))]), (I a1)] (LV.ro 2 (r.map HostT.cells)) := by
  exact CallF.toP (cf_ref15_Hosts a0 a1 r h) (by repeat' first | exact True.intro | assumption | refine ⟨?_, ?_⟩) (NLss_map' _)

def ref15_Pairs_b31 (a1 : (List A2_Int)) (k31 : Nat) (x31 : A2_Int) (s31 : Unit) : Option (Step Bool Unit) :=
  (gix a1 ((k31 : Nat) : Int)).bind fun v46 =>
  (bif (!((decide (x31.c0 = v46.c0)) && ((decide (x31.c1 = v46.c1)) && true))) then
    some (.ret false)
  else
    some (.nxt ()))

def ref15_Pairs (a0 : (List A2_Int)) (a1 : (List A2_Int)) : Option Bool :=
  (bif (!decide (((a0.length : Nat) : Int) = ((a1.length : Nat) : Int))) then
    some false
  else
    aft (rangeL (ref15_Pairs_b31 a1) a0 ()) fun s31 =>
    some true)

theorem c_ref15_Pairs (a0 : (List A2_Int)) (a1 : (List A2_Int)) (r : Bool) (h : ref15_Pairs a0 a1 = some r) : CallP Try.prog 99 [(LV.ro 2 (a0.map A2_Int.cells)), (LV.ro 2 (a1.map A2_Int.cells))] (LV.bool r) := by
  unfold ref15_Pairs at h
  refine .intro (by repeat' first | exact True.intro | assumption | refine ⟨?_, ?_⟩) (.intro TT_ok Try.func99 rfl rfl [0, 1, 4, 5, 10, 12, 13, 14, 24] rfl ?_)
  conv => whnf
  repeat' first | with_reducible rfl | with_reducible exact True.intro | with_reducible assumption | refine parkI ?_ | (refine W.drawn TT_ok hmix1 rfl ?_; conv => whnf) | exact (congrArg Bool.not h) | exact fun _ => True.intro | exact (rfl : (_ : Nat) = _) | exact (rfl : (_ : LV) = _) | exact NLss_map' _ | refine NLss_app ?_ ?_ | refine NLss_rep ?_ | refine NLss_set ?_ ?_ | refine NLss_take ?_ | refine NLss_drop ?_ | (refine And.intro ?_ ?_ <;> conv => whnf) | (intro h; (conv => whnf) <;> first | with_reducible rfl | assumption | exact h | exact (congrArg Bool.not h) | (refine ⟨h, True.intro⟩) | (refine ⟨congrArg Bool.not h, True.intro⟩) | (refine ⟨by assumption, True.intro⟩)) | (intro h; exact (Bool.false_ne_true (h.symm.trans (by assumption))).elim) | (intro h; exact (Bool.false_ne_true (Eq.trans (Eq.symm (by assumption)) h)).elim) | (intros; simp_all; done) | (intros; exfalso; simp_all; done) | (refine gand ?_ h; assumption) | (simp only [se_map, se_byL]; exact rfl) | (simp only [se_map, se_byL, se_len, se_ch, List.length_map]; done) | fail
  refine parkE (fun hc => ?_) (fun hc => ?_)
  · replace h := condT (by first | exact hc | simpa only [se_len, se_ch, List.length_map] using hc) h
    conv => whnf
    have e := Option.some.inj h
    subst e
    repeat' first | with_reducible rfl | with_reducible exact True.intro | with_reducible assumption | (refine W.drawn TT_ok hmix1 rfl ?_; conv => whnf) | exact (congrArg Bool.not h) | exact fun _ => True.intro | exact (rfl : (_ : Nat) = _) | exact (rfl : (_ : LV) = _) | exact NLss_map' _ | refine NLss_app ?_ ?_ | refine NLss_rep ?_ | refine NLss_set ?_ ?_ | refine NLss_take ?_ | refine NLss_drop ?_ | (refine And.intro ?_ ?_ <;> conv => whnf) | (intro h; (conv => whnf) <;> first | with_reducible rfl | assumption | exact h | exact (congrArg Bool.not h) | (refine ⟨h, True.intro⟩) | (refine ⟨congrArg Bool.not h, True.intro⟩) | (refine ⟨by assumption, True.intro⟩)) | (intro h; exact (Bool.false_ne_true (h.symm.trans (by assumption))).elim) | (intro h; exact (Bool.false_ne_true (Eq.trans (Eq.symm (by assumption)) h)).elim) | (intros; simp_all; done) | (intros; exfalso; simp_all; done) | (refine gand ?_ h; assumption) | (simp only [se_map, se_byL]; exact rfl) | (simp only [se_map, se_byL, se_len, se_ch, List.length_map]; done) | fail
  · replace h := condF (by first | exact hc | simpa only [se_len, se_ch, List.length_map] using hc) h
    conv => whnf
    repeat' first | with_reducible rfl | with_reducible exact True.intro | with_reducible assumption | refine parkI ?_ | (refine W.drawn TT_ok hmix1 rfl ?_; conv => whnf) | exact (congrArg Bool.not h) | exact fun _ => True.intro | exact (rfl : (_ : Nat) = _) | exact (rfl : (_ : LV) = _) | exact NLss_map' _ | refine NLss_app ?_ ?_ | refine NLss_rep ?_ | refine NLss_set ?_ ?_ | refine NLss_take ?_ | refine NLss_drop ?_ | (refine And.intro ?_ ?_ <;> conv => whnf) | (intro h; (conv => whnf) <;> first | with_reducible rfl | assumption | exact h | exact (congrArg Bool.not h) | (refine ⟨h, True.intro⟩) | (refine ⟨congrArg Bool.not h, True.intro⟩) | (refine ⟨by assumption, True.intro⟩)) | (intro h; exact (Bool.false_ne_true (h.symm.trans (by assumption))).elim) | (intro h; exact (Bool.false_ne_true (Eq.trans (Eq.symm (by assumption)) h)).elim) | (intros; simp_all; done) | (intros; exfalso; simp_all; done) | (refine gand ?_ h; assumption) | (simp only [se_map, se_byL]; exact rfl) | (simp only [se_map, se_byL, se_len, se_ch, List.length_map]; done) | fail
    replace h := aftS h
    obtain ⟨O31, hO31, r31⟩ := h
    refine LoopW.norm [(0, (LV.ro 2 (a0.map A2_Int.cells))), (1, (LV.ro 2 (a1.map A2_Int.cells))), (12, (I (((a0.map A2_Int.cells).length : Nat) : Int))), (13, (I ((0 : Nat) : Int)))] 0 [] ⟨rfl, rfl, rfl, rfl, trivial⟩ trivial (by repeat' first | exact True.intro | exact rfl | exact NLs_bels (by assumption) | refine ⟨?_, ?_⟩) rfl ?_
    refine LoopW.forR (fun k31 s31 => [(0, (LV.ro 2 (a0.map A2_Int.cells))), (1, (LV.ro 2 (a1.map A2_Int.cells))), (12, (I (((a0.map A2_Int.cells).length : Nat) : Int))), (13, (I ((k31 : Nat) : Int)))]) (fun s31 => ⟨0, []⟩) hO31 (fun hl31 s31 hs31 => ?_) (fun hl31 k31 x31 s31 o31 hk31 hx31 b31 K31 hret31 hbrk31 => ?_)
    · rw [hs31] at r31
      dsimp only [aftM] at r31
      have hd : decide (((a0.length : Nat) : Int) < (((a0.map A2_Int.cells).length : Nat) : Int)) = false := by rw [decide_eq_false_iff_not]; (try simp only [se_len, se_ch, List.length_map]); omega
      refine LoopW.round TT_ok [0, 1, 4, 5, 10, 12, 13, 14, 24] ?_
      conv => whnf
      repeat' first | with_reducible rfl | with_reducible exact True.intro | with_reducible assumption | refine parkI ?_ | (refine W.drawn TT_ok hmix1 rfl ?_; conv => whnf) | exact (congrArg Bool.not h) | exact fun _ => True.intro | exact (rfl : (_ : Nat) = _) | exact (rfl : (_ : LV) = _) | exact NLss_map' _ | refine NLss_app ?_ ?_ | refine NLss_rep ?_ | refine NLss_set ?_ ?_ | refine NLss_take ?_ | refine NLss_drop ?_ | (refine And.intro ?_ ?_ <;> conv => whnf) | (intro h; (conv => whnf) <;> first | with_reducible rfl | assumption | exact h | exact (congrArg Bool.not h) | (refine ⟨h, True.intro⟩) | (refine ⟨congrArg Bool.not h, True.intro⟩) | (refine ⟨by assumption, True.intro⟩)) | (intro h; exact (Bool.false_ne_true (h.symm.trans (by assumption))).elim) | (intro h; exact (Bool.false_ne_true (Eq.trans (Eq.symm (by assumption)) h)).elim) | (intros; simp_all; done) | (intros; exfalso; simp_all; done) | (refine gand ?_ h; assumption) | (simp only [se_map, se_byL]; exact rfl) | (simp only [se_map, se_byL, se_len, se_ch, List.length_map]; done) | fail
      refine parkE (fun hc => ?_) (fun hc => ?_)
      · exact (Bool.false_ne_true (hd.symm.trans hc)).elim
      · clear hd
        conv => whnf
        have e := Option.some.inj r31
        subst e
        repeat' first | with_reducible rfl | with_reducible exact True.intro | with_reducible assumption | (refine W.drawn TT_ok hmix1 rfl ?_; conv => whnf) | exact (congrArg Bool.not h) | exact fun _ => True.intro | exact (rfl : (_ : Nat) = _) | exact (rfl : (_ : LV) = _) | exact NLss_map' _ | refine NLss_app ?_ ?_ | refine NLss_rep ?_ | refine NLss_set ?_ ?_ | refine NLss_take ?_ | refine NLss_drop ?_ | (refine And.intro ?_ ?_ <;> conv => whnf) | (intro h; (conv => whnf) <;> first | with_reducible rfl | assumption | exact h | exact (congrArg Bool.not h) | (refine ⟨h, True.intro⟩) | (refine ⟨congrArg Bool.not h, True.intro⟩) | (refine ⟨by assumption, True.intro⟩)) | (intro h; exact (Bool.false_ne_true (h.symm.trans (by assumption))).elim) | (intro h; exact (Bool.false_ne_true (Eq.trans (Eq.symm (by assumption)) h)).elim) | (intros; simp_all; done) | (intros; exfalso; simp_all; done) | (refine gand ?_ h; assumption) | (simp only [se_map, se_byL]; exact rfl) | (simp only [se_map, se_byL, se_len, se_ch, List.length_map]; done) | fail
    · unfold ref15_Pairs_b31 at b31
      have hd : decide (((k31 : Nat) : Int) < (((a0.map A2_Int.cells).length : Nat) : Int)) = true := by rw [decide_eq_true_eq]; (try simp only [se_len, se_ch, List.length_map] at hk31); (try simp only [se_len, se_ch, List.length_map]); omega
      refine LoopW.round TT_ok [0, 1, 4, 5, 10, 12, 13, 14, 24] ?_
      conv => whnf
      repeat' first | with_reducible rfl | with_reducible exact True.intro | with_reducible assumption | refine parkI ?_ | (refine W.drawn TT_ok hmix1 rfl ?_; conv => whnf) | exact (congrArg Bool.not h) | exact fun _ => True.intro | exact (rfl : (_ : Nat) = _) | exact (rfl : (_ : LV) = _) | exact NLss_map' _ | refine NLss_app ?_ ?_ | refine NLss_rep ?_ | refine NLss_set ?_ ?_ | refine NLss_take ?_ | refine NLss_drop ?_ | (refine And.intro ?_ ?_ <;> conv => whnf) | (intro h; (conv => whnf) <;> first | with_reducible rfl | assumption | exact h | exact (congrArg Bool.not h) | (refine ⟨h, True.intro⟩) | (refine ⟨congrArg Bool.not h, True.intro⟩) | (refine ⟨by assumption, True.intro⟩)) | (intro h; exact (Bool.false_ne_true (h.symm.trans (by assumption))).elim) | (intro h; exact (Bool.false_ne_true (Eq.trans (Eq.symm (by assumption)) h)).elim) | (intros; simp_all; done) | (intros; exfalso; simp_all; done) | (refine gand ?_ h; assumption) | (simp only [se_map, se_byL]; exact rfl) | (simp only [se_map, se_byL, se_len, se_ch, List.length_map]; done) | fail
      refine parkE (fun hc => ?_) (fun hc => ?_)
      · clear hd
        conv => whnf
        replace b31 := bindS b31
        obtain ⟨v46, hv46, b31⟩ := b31
        have i47 := gixF (f := A2_Int.cells) hv46
        repeat' first | with_reducible rfl | with_reducible exact True.intro | with_reducible assumption | refine parkI ?_ | (refine ⟨_, (kixF (f := A2_Int.cells) hx31), ?_⟩; conv => whnf) | (refine ⟨_, i47, ?_⟩; conv => whnf) | (refine W.drawn TT_ok hmix1 rfl ?_; conv => whnf) | exact (congrArg Bool.not h) | exact fun _ => True.intro | exact (rfl : (_ : Nat) = _) | exact (rfl : (_ : LV) = _) | exact NLss_map' _ | refine NLss_app ?_ ?_ | refine NLss_rep ?_ | refine NLss_set ?_ ?_ | refine NLss_take ?_ | refine NLss_drop ?_ | (refine And.intro ?_ ?_ <;> conv => whnf) | (intro h; (conv => whnf) <;> first | with_reducible rfl | assumption | exact h | exact (congrArg Bool.not h) | (refine ⟨h, True.intro⟩) | (refine ⟨congrArg Bool.not h, True.intro⟩) | (refine ⟨by assumption, True.intro⟩)) | (intro h; exact (Bool.false_ne_true (h.symm.trans (by assumption))).elim) | (intro h; exact (Bool.false_ne_true (Eq.trans (Eq.symm (by assumption)) h)).elim) | (intros; simp_all; done) | (intros; exfalso; simp_all; done) | (refine gand ?_ h; assumption) | (simp only [se_map, se_byL]; exact rfl) | (simp only [se_map, se_byL, se_len, se_ch, List.length_map]; done) | fail
        refine parkE (fun hc => ?_) (fun hc => ?_)
        · replace b31 := condT hc b31
          conv => whnf
          have e := Option.some.inj b31
          replace e := hret31 _ e.symm
          rw [e] at r31
          replace e := Option.some.inj r31
          subst e
          repeat' first | with_reducible rfl | with_reducible exact True.intro | with_reducible assumption | (refine W.drawn TT_ok hmix1 rfl ?_; conv => whnf) | exact (congrArg Bool.not h) | exact fun _ => True.intro | exact (rfl : (_ : Nat) = _) | exact (rfl : (_ : LV) = _) | exact NLss_map' _ | refine NLss_app ?_ ?_ | refine NLss_rep ?_ | refine NLss_set ?_ ?_ | refine NLss_take ?_ | refine NLss_drop ?_ | (refine And.intro ?_ ?_ <;> conv => whnf) | (intro h; (conv => whnf) <;> first | with_reducible rfl | assumption | exact h | exact (congrArg Bool.not h) | (refine ⟨h, True.intro⟩) | (refine ⟨congrArg Bool.not h, True.intro⟩) | (refine ⟨by assumption, True.intro⟩)) | (intro h; exact (Bool.false_ne_true (h.symm.trans (by assumption))).elim) | (intro h; exact (Bool.false_ne_true (Eq.trans (Eq.symm (by assumption)) h)).elim) | (intros; simp_all; done) | (intros; exfalso; simp_all; done) | (refine gand ?_ h; assumption) | (simp only [se_map, se_byL]; exact rfl) | (simp only [se_map, se_byL, se_len, se_ch, List.length_map]; done) | fail
        · replace b31 := condF hc b31
          conv => whnf
          repeat' first | with_reducible rfl | with_reducible exact True.intro | with_reducible assumption | refine parkI ?_ | (refine W.drawn TT_ok hmix1 rfl ?_; conv => whnf) | exact (congrArg Bool.not h) | exact fun _ => True.intro | exact (rfl : (_ : Nat) = _) | exact (rfl : (_ : LV) = _) | exact NLss_map' _ | refine NLss_app ?_ ?_ | refine NLss_rep ?_ | refine NLss_set ?_ ?_ | refine NLss_take ?_ | refine NLss_drop ?_ | (refine And.intro ?_ ?_ <;> conv => whnf) | (intro h; (conv => whnf) <;> first | with_reducible rfl | assumption | exact h | exact (congrArg Bool.not h) | (refine ⟨h, True.intro⟩) | (refine ⟨congrArg Bool.not h, True.intro⟩) | (refine ⟨by assumption, True.intro⟩)) | (intro h; exact (Bool.false_ne_true (h.symm.trans (by assumption))).elim) | (intro h; exact (Bool.false_ne_true (Eq.trans (Eq.symm (by assumption)) h)).elim) | (intros; simp_all; done) | (intros; exfalso; simp_all; done) | (refine gand ?_ h; assumption) | (simp only [se_map, se_byL]; exact rfl) | (simp only [se_map, se_byL, se_len, se_ch, List.length_map]; done) | fail
          have e := Option.some.inj b31
          refine LoopW.norm [(0, (LV.ro 2 (a0.map A2_Int.cells))), (1, (LV.ro 2 (a1.map A2_Int.cells))), (12, (I (((a0.map A2_Int.cells).length : Nat) : Int))), (13, (I ((k31 + 1 : Nat) : Int)))] 0 [] ⟨rfl, rfl, rfl, (congrArg (LV.int .i64) (w64_nat _ (by omega))), trivial⟩ trivial (by repeat' first | exact True.intro | exact rfl | exact NLs_bels (by assumption) | refine ⟨?_, ?_⟩) rfl (K31 _ e.symm)
      · exact (Bool.false_ne_true (hc.symm.trans hd)).elim

def ref15_Ports_b33 (a1 : Int) (k32 : Nat) (k33 : Nat) (x33 : LinkT) (s33 : (List A2_Int)) : Option (Step (Step (List A2_Int) (List A2_Int)) (List A2_Int)) :=
  (bif (bif x33.Up then (decide (x33.Seg = a1)) else false) then
    grd (fits ((s33 ++ ([(⟨((k32 : Nat) : Int), ((k33 : Nat) : Int)⟩ : A2_Int)] : (List A2_Int))) : List A2_Int).length 16) <|
    some (.nxt (s33 ++ ([(⟨((k32 : Nat) : Int), ((k33 : Nat) : Int)⟩ : A2_Int)] : (List A2_Int))))
  else
    some (.nxt s33))

def ref15_Ports_b32 (a1 : Int) (k32 : Nat) (x32 : PlanT) (s32 : (List A2_Int)) : Option (Step (List A2_Int) (List A2_Int)) :=
  aft (rangeL (ref15_Ports_b33 a1 k32) x32.Ports s32) fun s33 =>
  some (.nxt s33)

def ref15_Ports (a0 : LanT) (a1 : Int) : Option (List A2_Int) :=
  aft (rangeL (ref15_Ports_b32 a1) a0.Plans ([] : (List A2_Int))) fun s32 =>
  some s32

theorem cf_ref15_Ports (a0 : LanT) (a1 : Int) (r : (List A2_Int)) (h : ref15_Ports a0 a1 = some r) : CallF Try.prog 100 [(LV.agg [(I a0.Segs), (LV.ro 2 (a0.Plans.map PlanT.cells)), (LV.ro 2 (a0.Hosts.map HostT.cells))]), (I a1)] 61 2 (r.map A2_Int.cells) := by
  unfold ref15_Ports at h
  refine CallF.of (NLss_map' _) (CallW.intro TT_ok Try.func100 rfl rfl [0, 1, 2, 4, 5, 6, 7, 8, 9, 12, 13, 14, 15, 20, 21, 22, 23, 34] rfl ?_)
  conv => whnf
  repeat' first | with_reducible rfl | with_reducible exact True.intro | with_reducible assumption | refine parkI ?_ | (refine And.intro ?_ ?_ <;> conv => whnf) | fail
  replace h := aftS h
  obtain ⟨O32, hO32, r32⟩ := h
  refine LoopW.norm [(1, (I a1)), (5, (LV.sl 1 0 (([] : (List A2_Int)).map A2_Int.cells).length)), (12, (LV.ro 2 (a0.Plans.map PlanT.cells))), (13, (I (((a0.Plans.map PlanT.cells).length : Nat) : Int))), (14, (I ((0 : Nat) : Int)))] 2 [(1, (.row 61 2 (([] : (List A2_Int)).map A2_Int.cells)))] ⟨rfl, (by simp only [se_map, se_byL, se_len, se_ch, List.length_map] : ((LV.sl 1 0 0) : LV) = (LV.sl 1 0 (([] : (List A2_Int)).map A2_Int.cells).length)), rfl, rfl, rfl, trivial⟩ ⟨⟨(congrArg (fun q => some (Blk.row 61 2 q)) (by simp only [se_map, se_byL, se_len, se_ch, List.length_map] : (([] : List (List LV)) : List (List LV)) = (([] : (List A2_Int)).map A2_Int.cells))), rfl, NLss_bel (NLss_map' _)⟩, trivial⟩ (by repeat' first | exact True.intro | exact rfl | exact NLs_bels (by assumption) | refine ⟨?_, ?_⟩) rfl ?_
  refine LoopW.forR (fun k32 s32 => [(1, (I a1)), (5, (LV.sl 1 0 (s32.map A2_Int.cells).length)), (12, (LV.ro 2 (a0.Plans.map PlanT.cells))), (13, (I (((a0.Plans.map PlanT.cells).length : Nat) : Int))), (14, (I ((k32 : Nat) : Int)))]) (fun s32 => ⟨2, [(1, (.row 61 2 (s32.map A2_Int.cells)))]⟩) hO32 (fun hl32 s32 hs32 => ?_) (fun hl32 k32 x32 s32 o32 hk32 hx32 b32 K32 hret32 hbrk32 => ?_)
  · rw [hs32] at r32
    dsimp only [aftM] at r32
    have hd : decide (((a0.Plans.length : Nat) : Int) < (((a0.Plans.map PlanT.cells).length : Nat) : Int)) = false := by rw [decide_eq_false_iff_not]; (try simp only [se_len, se_ch, List.length_map]); omega
    refine LoopW.round TT_ok [0, 1, 2, 4, 5, 6, 7, 8, 9, 12, 13, 14, 15, 20, 21, 22, 23, 34] ?_
    conv => whnf
    repeat' first | with_reducible rfl | with_reducible exact True.intro | with_reducible assumption | refine parkI ?_ | (refine And.intro ?_ ?_ <;> conv => whnf) | fail
    refine parkE (fun hc => ?_) (fun hc => ?_)
    · exact (Bool.false_ne_true (hd.symm.trans hc)).elim
    · clear hd
      conv => whnf
      have e := Option.some.inj r32
      subst e
      repeat' first | with_reducible rfl | with_reducible exact True.intro | with_reducible assumption | exact Or.inr ⟨_, rfl, congrArg (fun q => some (Blk.row 61 2 q)) rfl⟩ | exact (congrArg Bool.not h) | exact fun _ => True.intro | exact (rfl : (_ : Nat) = _) | exact (rfl : (_ : LV) = _) | exact NLss_map' _ | refine NLss_app ?_ ?_ | refine NLss_rep ?_ | refine NLss_set ?_ ?_ | refine NLss_take ?_ | refine NLss_drop ?_ | (refine And.intro ?_ ?_ <;> conv => whnf) | (intro h; (conv => whnf) <;> first | with_reducible rfl | assumption | exact h | exact (congrArg Bool.not h) | (refine ⟨h, True.intro⟩) | (refine ⟨congrArg Bool.not h, True.intro⟩) | (refine ⟨by assumption, True.intro⟩)) | (intro h; exact (Bool.false_ne_true (h.symm.trans (by assumption))).elim) | (intro h; exact (Bool.false_ne_true (Eq.trans (Eq.symm (by assumption)) h)).elim) | (intros; simp_all; done) | (intros; exfalso; simp_all; done) | (refine gand ?_ h; assumption) | (simp only [se_map, se_byL]; exact rfl) | (simp only [se_map, se_byL, se_len, se_ch, List.length_map]; done) | fail
  · unfold ref15_Ports_b32 at b32
    have hd : decide (((k32 : Nat) : Int) < (((a0.Plans.map PlanT.cells).length : Nat) : Int)) = true := by rw [decide_eq_true_eq]; (try simp only [se_len, se_ch, List.length_map] at hk32); (try simp only [se_len, se_ch, List.length_map]); omega
    refine LoopW.round TT_ok [0, 1, 2, 4, 5, 6, 7, 8, 9, 12, 13, 14, 15, 20, 21, 22, 23, 34] ?_
    conv => whnf
    repeat' first | with_reducible rfl | with_reducible exact True.intro | with_reducible assumption | refine parkI ?_ | (refine And.intro ?_ ?_ <;> conv => whnf) | fail
    refine parkE (fun hc => ?_) (fun hc => ?_)
    · clear hd
      conv => whnf
      repeat' first | with_reducible rfl | with_reducible exact True.intro | with_reducible assumption | refine parkI ?_ | (refine ⟨_, (kixF (f := PlanT.cells) hx32), ?_⟩; conv => whnf) | (refine And.intro ?_ ?_ <;> conv => whnf) | fail
      replace b32 := aftS b32
      obtain ⟨O33, hO33, r33⟩ := b32
      refine LoopW.norm [(1, (I a1)), (5, (LV.sl 1 0 (s32.map A2_Int.cells).length)), (6, (I ((k32 : Nat) : Int))), (12, (LV.ro 2 (a0.Plans.map PlanT.cells))), (13, (I (((a0.Plans.map PlanT.cells).length : Nat) : Int))), (14, (I ((k32 : Nat) : Int))), (20, (LV.ro 3 (x32.Ports.map LinkT.cells))), (21, (I (((x32.Ports.map LinkT.cells).length : Nat) : Int))), (22, (I ((0 : Nat) : Int)))] 2 [(1, (.row 61 2 (s32.map A2_Int.cells)))] ⟨rfl, rfl, rfl, rfl, rfl, rfl, rfl, rfl, rfl, trivial⟩ ⟨⟨rfl, rfl, NLss_bel (NLss_map' _)⟩, trivial⟩ (by repeat' first | exact True.intro | exact rfl | exact NLs_bels (by assumption) | refine ⟨?_, ?_⟩) rfl ?_
      refine LoopW.forR (fun k33 s33 => [(1, (I a1)), (5, (LV.sl 1 0 (s33.map A2_Int.cells).length)), (6, (I ((k32 : Nat) : Int))), (12, (LV.ro 2 (a0.Plans.map PlanT.cells))), (13, (I (((a0.Plans.map PlanT.cells).length : Nat) : Int))), (14, (I ((k32 : Nat) : Int))), (20, (LV.ro 3 (x32.Ports.map LinkT.cells))), (21, (I (((x32.Ports.map LinkT.cells).length : Nat) : Int))), (22, (I ((k33 : Nat) : Int)))]) (fun s33 => ⟨2, [(1, (.row 61 2 (s33.map A2_Int.cells)))]⟩) hO33 (fun hl33 s33 hs33 => ?_) (fun hl33 k33 x33 s33 o33 hk33 hx33 b33 K33 hret33 hbrk33 => ?_)
      · rw [hs33] at r33
        dsimp only [aftM] at r33
        have hd : decide (((x32.Ports.length : Nat) : Int) < (((x32.Ports.map LinkT.cells).length : Nat) : Int)) = false := by rw [decide_eq_false_iff_not]; (try simp only [se_len, se_ch, List.length_map]); omega
        refine LoopW.round TT_ok [0, 1, 2, 4, 5, 6, 7, 8, 9, 12, 13, 14, 15, 20, 21, 22, 23, 34] ?_
        conv => whnf
        repeat' first | with_reducible rfl | with_reducible exact True.intro | with_reducible assumption | refine parkI ?_ | (refine And.intro ?_ ?_ <;> conv => whnf) | fail
        refine parkE (fun hc => ?_) (fun hc => ?_)
        · exact (Bool.false_ne_true (hd.symm.trans hc)).elim
        · clear hd
          conv => whnf
          repeat' first | with_reducible rfl | with_reducible exact True.intro | with_reducible assumption | refine parkI ?_ | (refine And.intro ?_ ?_ <;> conv => whnf) | fail
          have e := Option.some.inj r33
          refine LoopW.norm [(1, (I a1)), (5, (LV.sl 1 0 (s33.map A2_Int.cells).length)), (12, (LV.ro 2 (a0.Plans.map PlanT.cells))), (13, (I (((a0.Plans.map PlanT.cells).length : Nat) : Int))), (14, (I ((k32 + 1 : Nat) : Int)))] 2 [(1, (.row 61 2 (s33.map A2_Int.cells)))] ⟨rfl, rfl, rfl, rfl, (congrArg (LV.int .i64) (w64_nat _ (by omega))), trivial⟩ ⟨⟨rfl, rfl, NLss_bel (NLss_map' _)⟩, trivial⟩ (by repeat' first | exact True.intro | exact rfl | exact NLs_bels (by assumption) | refine ⟨?_, ?_⟩) rfl (K32 _ e.symm)
      · unfold ref15_Ports_b33 at b33
        have hd : decide (((k33 : Nat) : Int) < (((x32.Ports.map LinkT.cells).length : Nat) : Int)) = true := by rw [decide_eq_true_eq]; (try simp only [se_len, se_ch, List.length_map] at hk33); (try simp only [se_len, se_ch, List.length_map]); omega
        refine LoopW.round TT_ok [0, 1, 2, 4, 5, 6, 7, 8, 9, 12, 13, 14, 15, 20, 21, 22, 23, 34] ?_
        conv => whnf
        repeat' first | with_reducible rfl | with_reducible exact True.intro | with_reducible assumption | refine parkI ?_ | (refine And.intro ?_ ?_ <;> conv => whnf) | fail
        refine parkE (fun hc => ?_) (fun hc => ?_)
        · clear hd
          conv => whnf
          repeat' first | with_reducible rfl | with_reducible exact True.intro | with_reducible assumption | refine parkI ?_ | (refine ⟨_, (kixF (f := LinkT.cells) hx33), ?_⟩; conv => whnf) | exact (congrArg Bool.not h) | exact fun _ => True.intro | (refine And.intro ?_ ?_ <;> conv => whnf) | (intro h; (conv => whnf) <;> first | with_reducible rfl | assumption | exact h | exact (congrArg Bool.not h) | (refine ⟨h, True.intro⟩) | (refine ⟨congrArg Bool.not h, True.intro⟩) | (refine ⟨by assumption, True.intro⟩)) | (intro h; exact (Bool.false_ne_true (h.symm.trans (by assumption))).elim) | (intro h; exact (Bool.false_ne_true (Eq.trans (Eq.symm (by assumption)) h)).elim) | (intros; simp_all; done) | (intros; exfalso; simp_all; done) | (refine gand ?_ h; assumption) | fail
          refine parkE (fun hc => ?_) (fun hc => ?_)
          · replace b33 := condT hc b33
            conv => whnf
            replace b33 := grdS b33
            obtain ⟨g48, b33⟩ := b33
            replace g48 : fits (((s33.map A2_Int.cells) ++ [[(I ((k32 : Nat) : Int)), (I ((k33 : Nat) : Int))]])).length 16 := by simpa only [se_len, se_ch, List.length_map] using g48
            repeat' first | with_reducible rfl | with_reducible exact True.intro | with_reducible assumption | refine parkI ?_ | exact g48 | exact (rfl : (_ : Nat) = _) | exact NLss_map' _ | refine NLss_app ?_ ?_ | refine NLss_rep ?_ | refine NLss_set ?_ ?_ | refine NLss_take ?_ | refine NLss_drop ?_ | (refine And.intro ?_ ?_ <;> conv => whnf) | (simp only [se_map, se_byL]; exact rfl) | (simp only [se_map, se_byL, se_len, se_ch, List.length_map]; done) | fail
            have e := Option.some.inj b33
            refine LoopW.ren [(4, 1)] [(1, (I a1)), (5, (LV.sl 1 0 ((s33 ++ ([(⟨((k32 : Nat) : Int), ((k33 : Nat) : Int)⟩ : A2_Int)] : (List A2_Int))).map A2_Int.cells).length)), (6, (I ((k32 : Nat) : Int))), (12, (LV.ro 2 (a0.Plans.map PlanT.cells))), (13, (I (((a0.Plans.map PlanT.cells).length : Nat) : Int))), (14, (I ((k32 : Nat) : Int))), (20, (LV.ro 3 (x32.Ports.map LinkT.cells))), (21, (I (((x32.Ports.map LinkT.cells).length : Nat) : Int))), (22, (I ((k33 + 1 : Nat) : Int)))] 2 [(1, (.row 61 2 ((s33 ++ ([(⟨((k32 : Nat) : Int), ((k33 : Nat) : Int)⟩ : A2_Int)] : (List A2_Int))).map A2_Int.cells)))] rfl ⟨rfl, (by simp only [se_map, se_byL, se_len, se_ch, List.length_map] : ((LV.sl 1 0 (((s33.map A2_Int.cells) ++ [[(I ((k32 : Nat) : Int)), (I ((k33 : Nat) : Int))]])).length) : LV) = (LV.sl 1 0 ((s33 ++ ([(⟨((k32 : Nat) : Int), ((k33 : Nat) : Int)⟩ : A2_Int)] : (List A2_Int))).map A2_Int.cells).length)), rfl, rfl, rfl, rfl, rfl, rfl, (congrArg (LV.int .i64) (w64_nat _ (by omega))), trivial⟩ ⟨⟨rfl, rfl, .inl ⟨(by simp only [se_map, se_byL, se_len, se_ch, List.length_map] : (((s33.map A2_Int.cells) ++ [[(I ((k32 : Nat) : Int)), (I ((k33 : Nat) : Int))]]) : List (List LV)) = ((s33 ++ ([(⟨((k32 : Nat) : Int), ((k33 : Nat) : Int)⟩ : A2_Int)] : (List A2_Int))).map A2_Int.cells)), (by repeat' first | exact NLss_map' _ | refine NLss_app ?_ ?_ | refine NLss_set ?_ ?_ | refine NLss_rep ?_ | refine NLss_take ?_ | refine NLss_drop ?_ | exact True.intro | refine ⟨?_, ?_⟩)⟩⟩, rfl, rfl, trivial⟩ rfl (K33 _ e.symm)
          · replace b33 := condF hc b33
            conv => whnf
            repeat' first | with_reducible rfl | with_reducible exact True.intro | with_reducible assumption | refine parkI ?_ | (refine And.intro ?_ ?_ <;> conv => whnf) | fail
            have e := Option.some.inj b33
            refine LoopW.norm [(1, (I a1)), (5, (LV.sl 1 0 (s33.map A2_Int.cells).length)), (6, (I ((k32 : Nat) : Int))), (12, (LV.ro 2 (a0.Plans.map PlanT.cells))), (13, (I (((a0.Plans.map PlanT.cells).length : Nat) : Int))), (14, (I ((k32 : Nat) : Int))), (20, (LV.ro 3 (x32.Ports.map LinkT.cells))), (21, (I (((x32.Ports.map LinkT.cells).length : Nat) : Int))), (22, (I ((k33 + 1 : Nat) : Int)))] 2 [(1, (.row 61 2 (s33.map A2_Int.cells)))] ⟨rfl, rfl, rfl, rfl, rfl, rfl, rfl, rfl, (congrArg (LV.int .i64) (w64_nat _ (by omega))), trivial⟩ ⟨⟨rfl, rfl, NLss_bel (NLss_map' _)⟩, trivial⟩ (by repeat' first | exact True.intro | exact rfl | exact NLs_bels (by assumption) | refine ⟨?_, ?_⟩) rfl (K33 _ e.symm)
        · exact (Bool.false_ne_true (hc.symm.trans hd)).elim
    · exact (Bool.false_ne_true (hc.symm.trans hd)).elim

theorem c_ref15_Ports (a0 : LanT) (a1 : Int) (r : (List A2_Int)) (h : ref15_Ports a0 a1 = some r) : CallP Try.prog 100 [(LV.agg [(I a0.Segs), (LV.ro 2 (a0.Plans.map PlanT.cells)), (LV.ro 2 (a0.Hosts.map HostT.cells))]), (I a1)] (LV.ro 2 (r.map A2_Int.cells)) := by
  exact CallF.toP (cf_ref15_Ports a0 a1 r h) (by repeat' first | exact True.intro | assumption | refine ⟨?_, ?_⟩) (NLss_map' _)

end Go.RX
