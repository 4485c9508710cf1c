/- Plain functions, and what says that the program's functions compute them. -/
import Derived.Test.YtoahcombdhgmhaaLa
import Derived.Test.YtoahcombdhgmhaaRXB
set_option linter.unusedVariables false
set_option linter.unusedSimpArgs false
open Go Go.RX Go.Proofs
namespace Go.RX
set_option maxRecDepth 10000
set_option maxHeartbeats 4000000
attribute [local irreducible] CallW CallP LoopW W IntKind.wrap bitI
def slices_Clone_Host (a0 : (List HostT)) : Option (List HostT) :=
  grd (fits a0.length 16) <|
  some a0

theorem cf_slices_Clone_Host (a0 : (List HostT)) (r : (List HostT)) (h : slices_Clone_Host a0 = some r) : CallF Try.prog 156 [(LV.ro 2 (a0.map HostT.cells))] 147 2 (r.map HostT.cells) := by
  unfold slices_Clone_Host at h
  replace h := grdS h
  obtain ⟨g, h⟩ := h
  obtain rfl := Option.some.inj h
  have f1 : fits (([] : List (List LV)) ++ a0.map HostT.cells).length 16 := by rw [List.nil_append, List.length_map]; exact g
  refine CallF.of (NLss_map' _) (CallW.intro TT_ok Try.func156 rfl rfl [0, 2, 4] rfl ?_)
  conv => whnf
  repeat' first | with_reducible rfl | with_reducible exact True.intro | refine parkI ?_ | exact f1 | exact Or.inl ⟨rfl, by assumption⟩ | exact Or.inr ⟨_, rfl, rfl⟩ | exact (rfl : (_ : Nat) = _) | (refine And.intro ?_ ?_ <;> conv => whnf) | (intro h; conv => whnf) | (refine parkE (fun hc => ?_) (fun hc => ?_) <;> first | exact (Bool.false_ne_true hc).elim | exact (Bool.false_ne_true hc.symm).elim | conv => whnf) | fail

theorem c_slices_Clone_Host (a0 : (List HostT)) (r : (List HostT)) (h : slices_Clone_Host a0 = some r) : CallP Try.prog 156 [(LV.ro 2 (a0.map HostT.cells))] (LV.ro 2 (r.map HostT.cells)) :=
  CallF.toP (cf_slices_Clone_Host a0 r h) ⟨trivial, trivial⟩ (NLss_map' _)

def slices_IndexFunc_Host_b14 (q1 : (HostT → Option Bool)) (k14 : Nat) (x14 : HostT) (s14 : Unit) : Option (Step Int Unit) :=
  (q1 x14).bind fun y6 =>
  (bif y6 then
    some (.ret ((k14 : Nat) : Int))
  else
    some (.nxt ()))

def slices_IndexFunc_Host (a0 : (List HostT)) (q1 : (HostT → Option Bool)) : Option Int :=
  aft (rangeL (slices_IndexFunc_Host_b14 q1) a0 ()) fun s14 =>
  some (-1)

theorem c_slices_IndexFunc_Host (a0 : (List HostT)) (fn1 : Nat) (ff1 fc1 : List LV) (q1 : (HostT → Option Bool)) (hq1 : ∀ (x0 : HostT) (r : Bool), q1 x0 = some r → CallP Try.prog fn1 (ff1 ++ [(LV.agg [(I x0.Mac), (I x0.Seg)])] ++ fc1) (LV.bool r)) (hn1 : NLs ff1 ∧ NLs fc1) (r : Int) (h : slices_IndexFunc_Host a0 q1 = some r) : CallP Try.prog 247 [(LV.ro 2 (a0.map HostT.cells)), (LV.func (.func fn1) ff1 fc1)] (I r) := by
  have hnA1 := hn1.1
  have hnB1 := hn1.2
  unfold slices_IndexFunc_Host at h
  refine .intro (by repeat' first | exact True.intro | assumption | refine ⟨?_, ?_⟩) (.intro TT_ok Try.func247 rfl rfl [0, 1, 4, 5, 7, 8, 9, 16] rfl ?_)
  conv => whnf
  repeat' first | with_reducible rfl | with_reducible exact True.intro | with_reducible assumption | refine parkI ?_ | (refine And.intro ?_ ?_ <;> conv => whnf) | fail
  replace h := aftS h
  obtain ⟨O14, hO14, r14⟩ := h
  refine LoopW.norm [(0, (LV.ro 2 (a0.map HostT.cells))), (1, (LV.func (.func fn1) ff1 fc1)), (7, (I (((a0.map HostT.cells).length : Nat) : Int))), (8, (I ((0 : Nat) : Int)))] 0 [] ⟨rfl, rfl, rfl, rfl, trivial⟩ trivial (by repeat' first | exact True.intro | exact rfl | exact NLs_bels (by assumption) | refine ⟨?_, ?_⟩) rfl ?_
  refine LoopW.forR (fun k14 s14 => [(0, (LV.ro 2 (a0.map HostT.cells))), (1, (LV.func (.func fn1) ff1 fc1)), (7, (I (((a0.map HostT.cells).length : Nat) : Int))), (8, (I ((k14 : Nat) : Int)))]) (fun s14 => ⟨0, []⟩) hO14 (fun hl14 s14 hs14 => ?_) (fun hl14 k14 x14 s14 o14 hk14 hx14 b14 K14 hret14 hbrk14 => ?_)
  · rw [hs14] at r14
    dsimp only [aftM] at r14
    have hd : decide (((a0.length : Nat) : Int) < (((a0.map HostT.cells).length : Nat) : Int)) = false := by rw [decide_eq_false_iff_not]; (try simp only [se_len, se_ch, List.length_map]); omega
    refine LoopW.round TT_ok [0, 1, 4, 5, 7, 8, 9, 16] ?_
    conv => whnf
    repeat' first | with_reducible rfl | with_reducible exact True.intro | with_reducible assumption | refine parkI ?_ | (refine And.intro ?_ ?_ <;> conv => whnf) | fail
    refine parkE (fun hc => ?_) (fun hc => ?_)
    · exact (Bool.false_ne_true (hd.symm.trans hc)).elim
    · clear hd
      conv => whnf
      have e := Option.some.inj r14
      subst e
      repeat' first | with_reducible rfl | with_reducible exact True.intro | with_reducible assumption | exact (congrArg Bool.not h) | exact fun _ => True.intro | exact (rfl : (_ : Nat) = _) | exact (rfl : (_ : LV) = _) | exact NLss_map' _ | refine NLss_app ?_ ?_ | refine NLss_rep ?_ | refine NLss_set ?_ ?_ | refine NLss_take ?_ | refine NLss_drop ?_ | (refine And.intro ?_ ?_ <;> conv => whnf) | (intro h; (conv => whnf) <;> first | with_reducible rfl | assumption | exact h | exact (congrArg Bool.not h) | (refine ⟨h, True.intro⟩) | (refine ⟨congrArg Bool.not h, True.intro⟩) | (refine ⟨by assumption, True.intro⟩)) | (intro h; exact (Bool.false_ne_true (h.symm.trans (by assumption))).elim) | (intro h; exact (Bool.false_ne_true (Eq.trans (Eq.symm (by assumption)) h)).elim) | (intros; simp_all; done) | (intros; exfalso; simp_all; done) | (refine gand ?_ h; assumption) | (simp only [se_map, se_byL]; exact rfl) | (simp only [se_map, se_byL, se_len, se_ch, List.length_map]; done) | fail
  · unfold slices_IndexFunc_Host_b14 at b14
    have hd : decide (((k14 : Nat) : Int) < (((a0.map HostT.cells).length : Nat) : Int)) = true := by rw [decide_eq_true_eq]; (try simp only [se_len, se_ch, List.length_map] at hk14); (try simp only [se_len, se_ch, List.length_map]); omega
    refine LoopW.round TT_ok [0, 1, 4, 5, 7, 8, 9, 16] ?_
    conv => whnf
    repeat' first | with_reducible rfl | with_reducible exact True.intro | with_reducible assumption | refine parkI ?_ | (refine And.intro ?_ ?_ <;> conv => whnf) | fail
    refine parkE (fun hc => ?_) (fun hc => ?_)
    · clear hd
      conv => whnf
      replace b14 := bindS b14
      obtain ⟨y6, hy6, b14⟩ := b14
      have c7 := hq1 x14 _ hy6
      repeat' first | with_reducible rfl | with_reducible exact True.intro | with_reducible assumption | refine parkI ?_ | (refine ⟨_, (kixF (f := HostT.cells) hx14), ?_⟩; conv => whnf) | (refine CallP.use c7 ?_; conv => whnf) | (refine frzB_call rfl (slN_nil hn1) ?_; conv => whnf) | (refine And.intro ?_ ?_ <;> conv => whnf) | fail
      refine parkE (fun hc => ?_) (fun hc => ?_)
      · replace b14 := condT hc b14
        conv => whnf
        have e := Option.some.inj b14
        replace e := hret14 _ e.symm
        rw [e] at r14
        replace e := Option.some.inj r14
        subst e
        repeat' first | with_reducible rfl | with_reducible exact True.intro | with_reducible assumption | exact (congrArg Bool.not h) | exact fun _ => True.intro | exact (rfl : (_ : Nat) = _) | exact (rfl : (_ : LV) = _) | exact NLss_map' _ | refine NLss_app ?_ ?_ | refine NLss_rep ?_ | refine NLss_set ?_ ?_ | refine NLss_take ?_ | refine NLss_drop ?_ | (refine And.intro ?_ ?_ <;> conv => whnf) | (intro h; (conv => whnf) <;> first | with_reducible rfl | assumption | exact h | exact (congrArg Bool.not h) | (refine ⟨h, True.intro⟩) | (refine ⟨congrArg Bool.not h, True.intro⟩) | (refine ⟨by assumption, True.intro⟩)) | (intro h; exact (Bool.false_ne_true (h.symm.trans (by assumption))).elim) | (intro h; exact (Bool.false_ne_true (Eq.trans (Eq.symm (by assumption)) h)).elim) | (intros; simp_all; done) | (intros; exfalso; simp_all; done) | (refine gand ?_ h; assumption) | (simp only [se_map, se_byL]; exact rfl) | (simp only [se_map, se_byL, se_len, se_ch, List.length_map]; done) | fail
      · replace b14 := condF hc b14
        conv => whnf
        repeat' first | with_reducible rfl | with_reducible exact True.intro | with_reducible assumption | refine parkI ?_ | (refine And.intro ?_ ?_ <;> conv => whnf) | fail
        have e := Option.some.inj b14
        refine LoopW.norm [(0, (LV.ro 2 (a0.map HostT.cells))), (1, (LV.func (.func fn1) ff1 fc1)), (7, (I (((a0.map HostT.cells).length : Nat) : Int))), (8, (I ((k14 + 1 : Nat) : Int)))] 0 [] ⟨rfl, rfl, rfl, (congrArg (LV.int .i64) (w64_nat _ (by omega))), trivial⟩ trivial (by repeat' first | exact True.intro | exact rfl | exact NLs_bels (by assumption) | refine ⟨?_, ?_⟩) rfl (K14 _ e.symm)
    · exact (Bool.false_ne_true (hc.symm.trans hd)).elim

def slices_DeleteFunc_Host_b15 (q1 : (HostT → Option Bool)) (s15 : (Int × Int × (List HostT))) : Option (Step (List HostT) (Int × Int × (List HostT))) :=
  (bif (decide (s15.2.1 < ((s15.2.2.length : Nat) : Int))) then
    grd ((0 : Int) ≤ s15.2.1 ∧ s15.2.1 < ((s15.2.2.length : Nat) : Int)) <|
    (gixN s15.2.2 (s15.2.1 : Int).toNat).bind fun v12 =>
    (q1 v12).bind fun y14 =>
    (bif (!y14) then
      grd ((0 : Int) ≤ s15.1 ∧ s15.1 < ((s15.2.2.length : Nat) : Int)) <|
      (gixN s15.2.2 (s15.1 : Int).toNat).bind fun v17 =>
      some (.nxt ((IntKind.i64.wrap (s15.1 + 1)), (IntKind.i64.wrap (s15.2.1 + 1)), (s15.2.2.set (s15.1 : Int).toNat v12)))
    else
      some (.nxt (s15.1, (IntKind.i64.wrap (s15.2.1 + 1)), s15.2.2)))
  else
    some (.brk (s15.1, s15.2.1, s15.2.2)))

def slices_DeleteFunc_Host (a0 : (List HostT)) (q1 : (HostT → Option Bool)) : Option (List HostT) :=
  (slices_IndexFunc_Host a0 q1).bind fun y9 =>
  (bif (decide (y9 = (-1))) then
    some a0
  else
    aft (loopF 1000000 (slices_DeleteFunc_Host_b15 q1) (y9, (IntKind.i64.wrap (y9 + 1)), a0)) fun s15 =>
    grd ((0 : Int) ≤ s15.1 ∧ s15.1 < ((s15.2.2.length : Nat) : Int)) <|
    grd ((0 : Int) ≤ s15.1 ∧ s15.1 ≤ ((s15.2.2.length : Nat) : Int)) <|
    some (s15.2.2.take (s15.1 : Int).toNat))

theorem w_slices_DeleteFunc_Host (a0 : (List HostT)) (fn1 : Nat) (ff1 fc1 : List LV) (q1 : (HostT → Option Bool)) (hq1 : ∀ (x0 : HostT) (r : Bool), q1 x0 = some r → CallP Try.prog fn1 (ff1 ++ [(LV.agg [(I x0.Mac), (I x0.Seg)])] ++ fc1) (LV.bool r)) (hn1 : NLs ff1 ∧ NLs fc1) (r : (List HostT)) (h : slices_DeleteFunc_Host a0 q1 = some r) : CallW Try.prog 155 [(LV.sl 0 0 (a0.map HostT.cells).length), (LV.func (.func fn1) ff1 fc1)] ⟨1, [(0, (.row 147 2 (a0.map HostT.cells)))]⟩ (fun lv H' => lv = (LV.sl 0 0 (r.map HostT.cells).length) ∧ H' = ⟨1, [(0, (.row 147 2 (r.map HostT.cells)))]⟩) := by
  have hnA1 := hn1.1
  have hnB1 := hn1.2
  unfold slices_DeleteFunc_Host at h
  refine CallW.shrink (CallW.intro TT_ok Try.func155 rfl rfl [0, 1, 4, 5, 6, 7, 12, 19, 29, 1000247] rfl ?_)
  conv => whnf
  have n8 : slNs [(LV.ro 2 (a0.map HostT.cells)), (LV.func (.func fn1) ff1 fc1)] = [] := slNs_nil (by repeat' first | exact True.intro | assumption | refine ⟨?_, ?_⟩)
  replace h := bindS h
  obtain ⟨y9, hy9, h⟩ := h
  have c10 := c_slices_IndexFunc_Host a0 fn1 ff1 fc1 q1 hq1 hn1 _ hy9
  repeat' first | with_reducible rfl | with_reducible exact True.intro | with_reducible assumption | refine parkI ?_ | (refine frzB_call n8 rfl ?_; conv => whnf) | (refine frz_nil n8 ?_; conv => whnf) | (refine CallW.done (CallP.lendG c10 (by repeat' first | exact True.intro | refine ⟨?_, ?_⟩) (show Lents _ [(LV.sl 0 0 (a0.map HostT.cells).length), (LV.func (.func fn1) ff1 fc1)] [(LV.ro 2 (a0.map HostT.cells)), (LV.func (.func fn1) ff1 fc1)] from ⟨Lent.sl rfl (by repeat' first | exact True.intro | exact rfl | assumption | exact NLss_map' _ | refine NLss_app ?_ ?_ | refine NLss_set ?_ ?_ | refine NLss_rep ?_ | refine NLss_take ?_ | refine NLss_drop ?_ | refine ⟨?_, ?_⟩), .of (by repeat' first | exact True.intro | assumption | refine ⟨?_, ?_⟩), True.intro⟩)) ?_; conv => whnf) | (refine And.intro ?_ ?_ <;> conv => whnf) | fail
  refine parkE (fun hc => ?_) (fun hc => ?_)
  · replace h := condT hc h
    conv => whnf
    have e := Option.some.inj h
    subst e
    repeat' first | with_reducible rfl | with_reducible exact True.intro | with_reducible assumption | exact ⟨[(0, (.row 147 2 (a0.map HostT.cells)))], ⟨⟨rfl, rfl, NLss_bel (NLss_map' _)⟩, trivial⟩, (by repeat' first | exact True.intro | exact rfl | exact NLs_bels (by assumption) | refine ⟨?_, ?_⟩), rfl, rfl⟩ | exact (congrArg Bool.not h) | exact fun _ => True.intro | exact (rfl : (_ : Nat) = _) | exact (rfl : (_ : LV) = _) | exact NLss_map' _ | refine NLss_app ?_ ?_ | refine NLss_rep ?_ | refine NLss_set ?_ ?_ | refine NLss_take ?_ | refine NLss_drop ?_ | (refine And.intro ?_ ?_ <;> conv => whnf) | (intro h; (conv => whnf) <;> first | with_reducible rfl | assumption | exact h | exact (congrArg Bool.not h) | (refine ⟨h, True.intro⟩) | (refine ⟨congrArg Bool.not h, True.intro⟩) | (refine ⟨by assumption, True.intro⟩)) | (intro h; exact (Bool.false_ne_true (h.symm.trans (by assumption))).elim) | (intro h; exact (Bool.false_ne_true (Eq.trans (Eq.symm (by assumption)) h)).elim) | (intros; simp_all; done) | (intros; exfalso; simp_all; done) | (refine gand ?_ h; assumption) | (simp only [se_map, se_byL]; exact rfl) | (simp only [se_map, se_byL, se_len, se_ch, List.length_map]; done) | fail
  · replace h := condF hc h
    conv => whnf
    repeat' first | with_reducible rfl | with_reducible exact True.intro | with_reducible assumption | refine parkI ?_ | (refine And.intro ?_ ?_ <;> conv => whnf) | fail
    replace h := aftS h
    obtain ⟨O15, hO15, r15⟩ := h
    refine LoopW.norm [(0, (LV.sl 0 0 ((y9, (IntKind.i64.wrap (y9 + 1)), a0).2.2.map HostT.cells).length)), (1, (LV.func (.func fn1) ff1 fc1)), (5, (I (y9, (IntKind.i64.wrap (y9 + 1)), a0).1)), (6, (I (y9, (IntKind.i64.wrap (y9 + 1)), a0).2.1))] 1 [(0, (.row 147 2 ((y9, (IntKind.i64.wrap (y9 + 1)), a0).2.2.map HostT.cells)))] ⟨(by exact congrArg (LV.sl 0 0) (by first | (simp only [se_map, se_byL, se_len, se_ch, List.length_map]; done) | ((try simp only [se_map, se_byL, se_len, se_ch, List.length_map]); (try simp only [se_len, se_ch, List.length_map] at *); omega) : (a0.map HostT.cells).length = ((y9, (IntKind.i64.wrap (y9 + 1)), a0).2.2.map HostT.cells).length)), rfl, (by simp only [se_map, se_byL, se_len, se_ch, List.length_map] : ((I y9) : LV) = (I (y9, (IntKind.i64.wrap (y9 + 1)), a0).1)), (by simp only [se_map, se_byL, se_len, se_ch, List.length_map] : ((I (IntKind.i64.wrap (y9 + 1))) : LV) = (I (y9, (IntKind.i64.wrap (y9 + 1)), a0).2.1)), trivial⟩ ⟨⟨(congrArg (fun q => some (Blk.row 147 2 q)) (by simp only [se_map, se_byL, se_len, se_ch, List.length_map] : ((a0.map HostT.cells) : List (List LV)) = ((y9, (IntKind.i64.wrap (y9 + 1)), a0).2.2.map HostT.cells))), rfl, NLss_bel (NLss_map' _)⟩, trivial⟩ (by repeat' first | exact True.intro | exact rfl | exact NLs_bels (by assumption) | refine ⟨?_, ?_⟩) rfl ?_
    refine LoopW.forF (fun s15 => [(0, (LV.sl 0 0 (s15.2.2.map HostT.cells).length)), (1, (LV.func (.func fn1) ff1 fc1)), (5, (I s15.1)), (6, (I s15.2.1))]) (fun s15 => ⟨1, [(0, (.row 147 2 (s15.2.2.map HostT.cells)))]⟩) hO15 (fun s15 o15 b15 K15 hret15 hbrk15 => ?_)
    unfold slices_DeleteFunc_Host_b15 at b15
    refine LoopW.round TT_ok [0, 1, 4, 5, 6, 7, 12, 19, 29, 1000247] ?_
    conv => whnf
    repeat' first | with_reducible rfl | with_reducible exact True.intro | with_reducible assumption | refine parkI ?_ | (refine And.intro ?_ ?_ <;> conv => whnf) | fail
    refine parkE (fun hc => ?_) (fun hc => ?_)
    · replace b15 := condT (by first | exact hc | simpa only [se_len, se_ch, List.length_map] using hc) b15
      conv => whnf
      replace b15 := grdS b15
      obtain ⟨g11, b15⟩ := b15
      replace g11 : (0 : Int) ≤ s15.2.1 ∧ s15.2.1 < (((s15.2.2.map HostT.cells).length : Nat) : Int) := by simpa only [se_len, se_ch, List.length_map] using g11
      replace b15 := bindS b15
      obtain ⟨v12, hv12, b15⟩ := b15
      have i13 : nth (s15.2.2.map HostT.cells) (0 + ((s15.2.1 : Int).toNat)) = some [(I v12.Mac), (I v12.Seg)] := by simpa only [se_map, se_len, se_ch, List.length_map, nth_eq, Nat.zero_add, List.getElem?_map] using gixNF (f := HostT.cells) hv12
      replace b15 := bindS b15
      obtain ⟨y14, hy14, b15⟩ := b15
      have c15 := hq1 v12 _ hy14
      repeat' first | with_reducible rfl | with_reducible exact True.intro | with_reducible assumption | refine parkI ?_ | exact g11 | (refine CallP.use c15 ?_; conv => whnf) | (rw [i13]; conv => whnf) | (refine frzB_call rfl (slN_nil hn1) ?_; conv => whnf) | (refine And.intro ?_ ?_ <;> conv => whnf) | fail
      refine parkE (fun hc => ?_) (fun hc => ?_)
      · replace b15 := condT hc b15
        conv => whnf
        replace b15 := grdS b15
        obtain ⟨g16, b15⟩ := b15
        replace g16 : (0 : Int) ≤ s15.1 ∧ s15.1 < (((s15.2.2.map HostT.cells).length : Nat) : Int) := by simpa only [se_len, se_ch, List.length_map] using g16
        replace b15 := bindS b15
        obtain ⟨v17, hv17, b15⟩ := b15
        have i18 : nth (s15.2.2.map HostT.cells) (0 + ((s15.1 : Int).toNat)) = some [(I v17.Mac), (I v17.Seg)] := by simpa only [se_map, se_len, se_ch, List.length_map, nth_eq, Nat.zero_add, List.getElem?_map] using gixNF (f := HostT.cells) hv17
        repeat' first | with_reducible rfl | with_reducible exact True.intro | with_reducible assumption | refine parkI ?_ | exact g16 | (rw [i18]; conv => whnf) | (refine And.intro ?_ ?_ <;> conv => whnf) | fail
        have e := Option.some.inj b15
        refine LoopW.norm [(0, (LV.sl 0 0 (((IntKind.i64.wrap (s15.1 + 1)), (IntKind.i64.wrap (s15.2.1 + 1)), (s15.2.2.set (s15.1 : Int).toNat v12)).2.2.map HostT.cells).length)), (1, (LV.func (.func fn1) ff1 fc1)), (5, (I ((IntKind.i64.wrap (s15.1 + 1)), (IntKind.i64.wrap (s15.2.1 + 1)), (s15.2.2.set (s15.1 : Int).toNat v12)).1)), (6, (I ((IntKind.i64.wrap (s15.1 + 1)), (IntKind.i64.wrap (s15.2.1 + 1)), (s15.2.2.set (s15.1 : Int).toNat v12)).2.1))] 1 [(0, (.row 147 2 (((IntKind.i64.wrap (s15.1 + 1)), (IntKind.i64.wrap (s15.2.1 + 1)), (s15.2.2.set (s15.1 : Int).toNat v12)).2.2.map HostT.cells)))] ⟨(by exact congrArg (LV.sl 0 0) (by first | (simp only [se_map, se_byL, se_len, se_ch, List.length_map]; done) | ((try simp only [se_map, se_byL, se_len, se_ch, List.length_map]); (try simp only [se_len, se_ch, List.length_map] at *); omega) : (s15.2.2.map HostT.cells).length = (((IntKind.i64.wrap (s15.1 + 1)), (IntKind.i64.wrap (s15.2.1 + 1)), (s15.2.2.set (s15.1 : Int).toNat v12)).2.2.map HostT.cells).length)), rfl, (by simp only [se_map, se_byL, se_len, se_ch, List.length_map] : ((I (IntKind.i64.wrap (s15.1 + 1))) : LV) = (I ((IntKind.i64.wrap (s15.1 + 1)), (IntKind.i64.wrap (s15.2.1 + 1)), (s15.2.2.set (s15.1 : Int).toNat v12)).1)), (by simp only [se_map, se_byL, se_len, se_ch, List.length_map] : ((I (IntKind.i64.wrap (s15.2.1 + 1))) : LV) = (I ((IntKind.i64.wrap (s15.1 + 1)), (IntKind.i64.wrap (s15.2.1 + 1)), (s15.2.2.set (s15.1 : Int).toNat v12)).2.1)), trivial⟩ ⟨⟨(congrArg (fun q => some (Blk.row 147 2 q)) (by simp only [se_map, se_byL, se_len, se_ch, List.length_map] : ((setN (s15.2.2.map HostT.cells) (0 + ((s15.1 : Int).toNat)) [(I v12.Mac), (I v12.Seg)]) : List (List LV)) = (((IntKind.i64.wrap (s15.1 + 1)), (IntKind.i64.wrap (s15.2.1 + 1)), (s15.2.2.set (s15.1 : Int).toNat v12)).2.2.map HostT.cells))), rfl, NLss_bel (NLss_map' _)⟩, trivial⟩ (by repeat' first | exact True.intro | exact rfl | exact NLs_bels (by assumption) | refine ⟨?_, ?_⟩) rfl (K15 _ e.symm)
      · replace b15 := condF hc b15
        conv => whnf
        repeat' first | with_reducible rfl | with_reducible exact True.intro | with_reducible assumption | refine parkI ?_ | (refine And.intro ?_ ?_ <;> conv => whnf) | fail
        have e := Option.some.inj b15
        refine LoopW.norm [(0, (LV.sl 0 0 ((s15.1, (IntKind.i64.wrap (s15.2.1 + 1)), s15.2.2).2.2.map HostT.cells).length)), (1, (LV.func (.func fn1) ff1 fc1)), (5, (I (s15.1, (IntKind.i64.wrap (s15.2.1 + 1)), s15.2.2).1)), (6, (I (s15.1, (IntKind.i64.wrap (s15.2.1 + 1)), s15.2.2).2.1))] 1 [(0, (.row 147 2 ((s15.1, (IntKind.i64.wrap (s15.2.1 + 1)), s15.2.2).2.2.map HostT.cells)))] ⟨(by exact congrArg (LV.sl 0 0) (by first | (simp only [se_map, se_byL, se_len, se_ch, List.length_map]; done) | ((try simp only [se_map, se_byL, se_len, se_ch, List.length_map]); (try simp only [se_len, se_ch, List.length_map] at *); omega) : (s15.2.2.map HostT.cells).length = ((s15.1, (IntKind.i64.wrap (s15.2.1 + 1)), s15.2.2).2.2.map HostT.cells).length)), rfl, (by simp only [se_map, se_byL, se_len, se_ch, List.length_map] : ((I s15.1) : LV) = (I (s15.1, (IntKind.i64.wrap (s15.2.1 + 1)), s15.2.2).1)), (by simp only [se_map, se_byL, se_len, se_ch, List.length_map] : ((I (IntKind.i64.wrap (s15.2.1 + 1))) : LV) = (I (s15.1, (IntKind.i64.wrap (s15.2.1 + 1)), s15.2.2).2.1)), trivial⟩ ⟨⟨(congrArg (fun q => some (Blk.row 147 2 q)) (by simp only [se_map, se_byL, se_len, se_ch, List.length_map] : ((s15.2.2.map HostT.cells) : List (List LV)) = ((s15.1, (IntKind.i64.wrap (s15.2.1 + 1)), s15.2.2).2.2.map HostT.cells))), rfl, NLss_bel (NLss_map' _)⟩, trivial⟩ (by repeat' first | exact True.intro | exact rfl | exact NLs_bels (by assumption) | refine ⟨?_, ?_⟩) rfl (K15 _ e.symm)
    · replace b15 := condF (by first | exact hc | simpa only [se_len, se_ch, List.length_map] using hc) b15
      conv => whnf
      have e := Option.some.inj b15
      replace e := hbrk15 _ e.symm
      rw [e] at r15
      dsimp only [aftM] at r15
      replace r15 := grdS r15
      obtain ⟨g19, r15⟩ := r15
      replace g19 : (0 : Int) ≤ s15.1 ∧ s15.1 < (((s15.2.2.map HostT.cells).length : Nat) : Int) := by simpa only [se_len, se_ch, List.length_map] using g19
      have l20 : (0 + (s15.1 : Int).toNat) + ((s15.2.2.map HostT.cells).length - (s15.1 : Int).toNat) = (s15.2.2.map HostT.cells).length := by (try simp only [se_len, se_ch, List.length_map]); (try simp only [se_len, se_ch, List.length_map] at *); omega
      replace r15 := grdS r15
      obtain ⟨g21, r15⟩ := r15
      replace g21 : (0 : Int) ≤ s15.1 ∧ s15.1 ≤ (((s15.2.2.map HostT.cells).length : Nat) : Int) := by simpa only [se_len, se_ch, List.length_map] using g21
      have e := Option.some.inj r15
      subst e
      repeat' first | with_reducible rfl | with_reducible exact True.intro | with_reducible assumption | exact ⟨[(0, (.row 147 2 ((s15.2.2.take (s15.1 : Int).toNat).map HostT.cells)))], ⟨⟨(congrArg (fun q => some (Blk.row 147 2 q)) (by first | (simp only [se_map, se_byL, se_len, se_ch, List.length_map]; done) | (simp only [se_map, se_byL, se_len, se_ch, List.length_map, Nat.zero_add]; done) : (((s15.2.2.map HostT.cells).take (0 + (s15.1 : Int).toNat)) : List (List LV)) = ((s15.2.2.take (s15.1 : Int).toNat).map HostT.cells))), rfl, NLss_bel (NLss_map' _)⟩, trivial⟩, (by repeat' first | exact True.intro | exact rfl | exact NLs_bels (by assumption) | refine ⟨?_, ?_⟩), (congrArg (LV.sl 0 0) (by (try simp only [se_map, se_byL, se_len, se_ch, List.length_map]); first | done | rfl | omega | (simp only [se_len, se_ch, List.length_map] at *; omega) : (s15.1 : Int).toNat = ((s15.2.2.take (s15.1 : Int).toNat).map HostT.cells).length)), rfl⟩ | exact g19 | exact g21 | exact l20 | exact (congrArg Bool.not h) | exact fun _ => True.intro | exact (rfl : (_ : Nat) = _) | exact (rfl : (_ : LV) = _) | exact NLss_map' _ | refine NLss_app ?_ ?_ | refine NLss_rep ?_ | refine NLss_set ?_ ?_ | refine NLss_take ?_ | refine NLss_drop ?_ | (refine And.intro ?_ ?_ <;> conv => whnf) | (intro h; (conv => whnf) <;> first | with_reducible rfl | assumption | exact h | exact (congrArg Bool.not h) | (refine ⟨h, True.intro⟩) | (refine ⟨congrArg Bool.not h, True.intro⟩) | (refine ⟨by assumption, True.intro⟩)) | (intro h; exact (Bool.false_ne_true (h.symm.trans (by assumption))).elim) | (intro h; exact (Bool.false_ne_true (Eq.trans (Eq.symm (by assumption)) h)).elim) | (intros; simp_all; done) | (intros; exfalso; simp_all; done) | (refine gand ?_ h; assumption) | (simp only [se_map, se_byL]; exact rfl) | (simp only [se_map, se_byL, se_len, se_ch, List.length_map]; done) | fail

def lan_On_1 (a0 : HostT) (q1 : Int) : Option Bool :=
  some (!decide (a0.Seg = q1))

theorem c_lan_On_1 (a0 : HostT) (q1 : Int) (r : Bool) (h : lan_On_1 a0 q1 = some r) : CallP Try.prog 157 [(LV.agg [(I a0.Mac), (I a0.Seg)]), (LV.rptr [(I q1)])] (LV.bool r) := by
  unfold lan_On_1 at h
  refine .intro (by repeat' first | exact True.intro | assumption | refine ⟨?_, ?_⟩) (.intro TT_ok Try.func157 rfl rfl [0, 1, 2, 3] rfl ?_)
  conv => whnf
  have e := Option.some.inj h
  subst e
  repeat' first | with_reducible rfl | with_reducible exact True.intro | with_reducible assumption | exact (congrArg Bool.not h) | exact fun _ => True.intro | exact (rfl : (_ : Nat) = _) | exact (rfl : (_ : LV) = _) | exact NLss_map' _ | refine NLss_app ?_ ?_ | refine NLss_rep ?_ | refine NLss_set ?_ ?_ | refine NLss_take ?_ | refine NLss_drop ?_ | (refine And.intro ?_ ?_ <;> conv => whnf) | (intro h; (conv => whnf) <;> first | with_reducible rfl | assumption | exact h | exact (congrArg Bool.not h) | (refine ⟨h, True.intro⟩) | (refine ⟨congrArg Bool.not h, True.intro⟩) | (refine ⟨by assumption, True.intro⟩)) | (intro h; exact (Bool.false_ne_true (h.symm.trans (by assumption))).elim) | (intro h; exact (Bool.false_ne_true (Eq.trans (Eq.symm (by assumption)) h)).elim) | (intros; simp_all; done) | (intros; exfalso; simp_all; done) | (refine gand ?_ h; assumption) | (simp only [se_map, se_byL]; exact rfl) | (simp only [se_map, se_byL, se_len, se_ch, List.length_map]; done) | fail

def lan_On_b13 (a1 : Int) (k12 : Nat) (k13 : Nat) (x13 : LinkT) (s13 : (List A2_Int)) : Option (Step (Step ((List HostT) × (List A2_Int) × Int) (List A2_Int)) (List A2_Int)) :=
  (bif (bif x13.Up then (decide (x13.Seg = a1)) else false) then
    grd (fits ((s13 ++ ([(⟨((k12 : Nat) : Int), ((k13 : Nat) : Int)⟩ : A2_Int)] : (List A2_Int))) : List A2_Int).length 16) <|
    some (.nxt (s13 ++ ([(⟨((k12 : Nat) : Int), ((k13 : Nat) : Int)⟩ : A2_Int)] : (List A2_Int))))
  else
    some (.nxt s13))

def lan_On_b12 (a1 : Int) (k12 : Nat) (x12 : PlanT) (s12 : (List A2_Int)) : Option (Step ((List HostT) × (List A2_Int) × Int) (List A2_Int)) :=
  aft (rangeL (lan_On_b13 a1 k12) x12.Ports s12) fun s13 =>
  some (.nxt s13)

def lan_On (a0 : LanT) (a1 : Int) : Option ((List HostT) × (List A2_Int) × Int) :=
  (lan_may a0 a1).bind fun y1 =>
  (bif (!decide (y1 = 0)) then
    some ([], [], y1)
  else
    aft (rangeL (lan_On_b12 a1) a0.Plans ([] : (List A2_Int))) fun s12 =>
    (slices_Clone_Host a0.Hosts).bind fun y4 =>
    (slices_DeleteFunc_Host y4 (fun x0_ => lan_On_1 x0_ a1)).bind fun y25 =>
    some (y25, s12, 0))

theorem c_lan_On (a0 : LanT) (a1 : Int) (r : ((List HostT) × (List A2_Int) × Int)) (h : lan_On a0 a1 = some r) : CallP Try.prog 46 [(LV.agg [(I a0.Segs), (LV.ro 2 (a0.Plans.map PlanT.cells)), (LV.ro 2 (a0.Hosts.map HostT.cells))]), (I a1)] (LV.tup [(LV.ro 2 (r.1.map HostT.cells)), (LV.ro 2 (r.2.1.map A2_Int.cells)), (I r.2.2)]) := by
  unfold lan_On at h
  refine .intro (by repeat' first | exact True.intro | assumption | refine ⟨?_, ?_⟩) (.intro TT_ok Try.func46 rfl rfl [0, 1, 2, 3, 4, 5, 6, 7, 8, 9, 10, 11, 12, 13, 18, 21, 22, 23, 24, 29, 30, 31, 32, 43, 1000155, 2000155] rfl ?_)
  conv => whnf
  replace h := bindS h
  obtain ⟨y1, hy1, h⟩ := h
  have c2 := c_lan_may a0 a1 _ hy1
  repeat' first | with_reducible rfl | with_reducible exact True.intro | with_reducible assumption | refine parkI ?_ | (refine CallP.use c2 ?_; conv => whnf) | (refine And.intro ?_ ?_ <;> conv => whnf) | fail
  refine parkE (fun hc => ?_) (fun hc => ?_)
  · replace h := condT hc h
    conv => whnf
    have e := Option.some.inj h
    subst e
    repeat' first | with_reducible rfl | with_reducible exact True.intro | with_reducible assumption | exact (congrArg Bool.not h) | exact fun _ => True.intro | exact (rfl : (_ : Nat) = _) | exact (rfl : (_ : LV) = _) | exact NLss_map' _ | refine NLss_app ?_ ?_ | refine NLss_rep ?_ | refine NLss_set ?_ ?_ | refine NLss_take ?_ | refine NLss_drop ?_ | (refine And.intro ?_ ?_ <;> conv => whnf) | (intro h; (conv => whnf) <;> first | with_reducible rfl | assumption | exact h | exact (congrArg Bool.not h) | (refine ⟨h, True.intro⟩) | (refine ⟨congrArg Bool.not h, True.intro⟩) | (refine ⟨by assumption, True.intro⟩)) | (intro h; exact (Bool.false_ne_true (h.symm.trans (by assumption))).elim) | (intro h; exact (Bool.false_ne_true (Eq.trans (Eq.symm (by assumption)) h)).elim) | (intros; simp_all; done) | (intros; exfalso; simp_all; done) | (refine gand ?_ h; assumption) | (simp only [se_map, se_byL]; exact rfl) | (simp only [se_map, se_byL, se_len, se_ch, List.length_map]; done) | fail
  · replace h := condF hc h
    conv => whnf
    repeat' first | with_reducible rfl | with_reducible exact True.intro | with_reducible assumption | refine parkI ?_ | (refine And.intro ?_ ?_ <;> conv => whnf) | fail
    replace h := aftS h
    obtain ⟨O12, hO12, r12⟩ := h
    refine LoopW.virt 8 61 2 rfl ?_
    refine LoopW.norm [(2, (LV.ptr 0 0 0)), (3, (LV.ptr 1 0 0)), (8, (LV.sl 2 0 (([] : (List A2_Int)).map A2_Int.cells).length)), (21, (LV.ro 2 (a0.Plans.map PlanT.cells))), (22, (I (((a0.Plans.map PlanT.cells).length : Nat) : Int))), (23, (I ((0 : Nat) : Int)))] 3 [(0, (.row 47 3 [[(I a0.Segs), (LV.ro 2 (a0.Plans.map PlanT.cells)), (LV.ro 2 (a0.Hosts.map HostT.cells))]])), (1, (.row 3 1 [[(I a1)]])), (2, (.row 61 2 (([] : (List A2_Int)).map A2_Int.cells)))] ⟨rfl, rfl, (by exact congrArg (LV.sl 2 0) (by first | (simp only [se_map, se_byL, se_len, se_ch, List.length_map]; done) | ((try simp only [se_map, se_byL, se_len, se_ch, List.length_map]); (try simp only [se_len, se_ch, List.length_map] at *); omega) : 0 = (([] : (List A2_Int)).map A2_Int.cells).length)), rfl, rfl, rfl, trivial⟩ ⟨⟨rfl, rfl, (by repeat' first | exact True.intro | exact rfl | exact NLs_bels (by assumption) | refine ⟨?_, ?_⟩)⟩, ⟨⟨rfl, rfl, (by repeat' first | exact True.intro | exact rfl | exact NLs_bels (by assumption) | refine ⟨?_, ?_⟩)⟩, ⟨⟨(congrArg (fun q => some (Blk.row 61 2 q)) (by simp only [se_map, se_byL, se_len, se_ch, List.length_map] : ([] : List (List LV)) = (([] : (List A2_Int)).map A2_Int.cells))), rfl, NLss_bel (NLss_map' _)⟩, trivial⟩⟩⟩ (by repeat' first | exact True.intro | exact rfl | exact NLs_bels (by assumption) | refine ⟨?_, ?_⟩) rfl ?_
    refine LoopW.forR (fun k12 s12 => [(2, (LV.ptr 0 0 0)), (3, (LV.ptr 1 0 0)), (8, (LV.sl 2 0 (s12.map A2_Int.cells).length)), (21, (LV.ro 2 (a0.Plans.map PlanT.cells))), (22, (I (((a0.Plans.map PlanT.cells).length : Nat) : Int))), (23, (I ((k12 : Nat) : Int)))]) (fun s12 => ⟨3, [(0, (.row 47 3 [[(I a0.Segs), (LV.ro 2 (a0.Plans.map PlanT.cells)), (LV.ro 2 (a0.Hosts.map HostT.cells))]])), (1, (.row 3 1 [[(I a1)]])), (2, (.row 61 2 (s12.map A2_Int.cells)))]⟩) hO12 (fun hl12 s12 hs12 => ?_) (fun hl12 k12 x12 s12 o12 hk12 hx12 b12 K12 hret12 hbrk12 => ?_)
    · rw [hs12] at r12
      dsimp only [aftM] at r12
      have hd : decide (((a0.Plans.length : Nat) : Int) < (((a0.Plans.map PlanT.cells).length : Nat) : Int)) = false := by rw [decide_eq_false_iff_not]; (try simp only [se_len, se_ch, List.length_map]); omega
      refine LoopW.round TT_ok [0, 1, 2, 3, 4, 5, 6, 7, 8, 9, 10, 11, 12, 13, 18, 21, 22, 23, 24, 29, 30, 31, 32, 43, 1000155, 2000155] ?_
      conv => whnf
      repeat' first | with_reducible rfl | with_reducible exact True.intro | with_reducible assumption | refine parkI ?_ | (refine And.intro ?_ ?_ <;> conv => whnf) | fail
      refine parkE (fun hc => ?_) (fun hc => ?_)
      · exact (Bool.false_ne_true (hd.symm.trans hc)).elim
      · clear hd
        conv => whnf
        replace r12 := bindS r12
        obtain ⟨y4, hy4, r12⟩ := r12
        have c5 := cf_slices_Clone_Host a0.Hosts _ hy4
        replace r12 := bindS r12
        obtain ⟨y25, hy25, r12⟩ := r12
        have c26 := w_slices_DeleteFunc_Host y4 157 [] [(LV.rptr [(I a1)])] (fun x0_ => lan_On_1 x0_ a1) (fun x0_ r h => c_lan_On_1 x0_ a1 r h) (by repeat' first | exact True.intro | refine ⟨?_, ?_⟩) _ hy25
        have e := Option.some.inj r12
        subst e
        repeat' first | with_reducible rfl | with_reducible exact True.intro | with_reducible assumption | (refine CallW.done (CallF.at c5 (by repeat' first | exact True.intro | assumption | refine ⟨?_, ?_⟩) (NLss_map' _)) ?_; conv => whnf) | (refine ⟨_, _, CallF.at c5 (by repeat' first | exact True.intro | assumption | refine ⟨?_, ?_⟩) (NLss_map' _), ?_⟩; conv => whnf) | (refine CallW.frame (nx2 := 4) (l2 := [(3, (.row 147 2 (y25.map HostT.cells)))]) [(3, 0)] [(0, 3)] c26 rfl rfl ⟨⟨rfl, rfl, .inl ⟨rfl, (by repeat' first | exact NLss_map' _ | refine NLss_app ?_ ?_ | refine NLss_set ?_ ?_ | refine NLss_rep ?_ | refine NLss_take ?_ | refine NLss_drop ?_ | exact True.intro | refine ⟨?_, ?_⟩)⟩⟩, rfl, rfl, trivial⟩ rfl rfl ⟨⟨rfl, rfl, .inl ⟨rfl, (by repeat' first | exact NLss_map' _ | refine NLss_app ?_ ?_ | refine NLss_set ?_ ?_ | refine NLss_rep ?_ | refine NLss_take ?_ | refine NLss_drop ?_ | exact True.intro | refine ⟨?_, ?_⟩)⟩⟩, rfl, rfl, trivial⟩ ?_; conv => whnf) | exact (congrArg Bool.not h) | exact fun _ => True.intro | exact (rfl : (_ : Nat) = _) | exact (rfl : (_ : LV) = _) | exact NLss_map' _ | refine NLss_app ?_ ?_ | refine NLss_rep ?_ | refine NLss_set ?_ ?_ | refine NLss_take ?_ | refine NLss_drop ?_ | (refine And.intro ?_ ?_ <;> conv => whnf) | (intro h; (conv => whnf) <;> first | with_reducible rfl | assumption | exact h | exact (congrArg Bool.not h) | (refine ⟨h, True.intro⟩) | (refine ⟨congrArg Bool.not h, True.intro⟩) | (refine ⟨by assumption, True.intro⟩)) | (intro h; exact (Bool.false_ne_true (h.symm.trans (by assumption))).elim) | (intro h; exact (Bool.false_ne_true (Eq.trans (Eq.symm (by assumption)) h)).elim) | (intros; simp_all; done) | (intros; exfalso; simp_all; done) | (refine gand ?_ h; assumption) | (simp only [se_map, se_byL]; exact rfl) | (simp only [se_map, se_byL, se_len, se_ch, List.length_map]; done) | fail
    · unfold lan_On_b12 at b12
      have hd : decide (((k12 : Nat) : Int) < (((a0.Plans.map PlanT.cells).length : Nat) : Int)) = true := by rw [decide_eq_true_eq]; (try simp only [se_len, se_ch, List.length_map] at hk12); (try simp only [se_len, se_ch, List.length_map]); omega
      refine LoopW.round TT_ok [0, 1, 2, 3, 4, 5, 6, 7, 8, 9, 10, 11, 12, 13, 18, 21, 22, 23, 24, 29, 30, 31, 32, 43, 1000155, 2000155] ?_
      conv => whnf
      repeat' first | with_reducible rfl | with_reducible exact True.intro | with_reducible assumption | refine parkI ?_ | (refine And.intro ?_ ?_ <;> conv => whnf) | fail
      refine parkE (fun hc => ?_) (fun hc => ?_)
      · clear hd
        conv => whnf
        repeat' first | with_reducible rfl | with_reducible exact True.intro | with_reducible assumption | refine parkI ?_ | (refine ⟨_, (kixF (f := PlanT.cells) hx12), ?_⟩; conv => whnf) | (refine And.intro ?_ ?_ <;> conv => whnf) | fail
        replace b12 := aftS b12
        obtain ⟨O13, hO13, r13⟩ := b12
        refine LoopW.norm [(2, (LV.ptr 0 0 0)), (3, (LV.ptr 1 0 0)), (8, (LV.sl 2 0 (s12.map A2_Int.cells).length)), (9, (I ((k12 : Nat) : Int))), (21, (LV.ro 2 (a0.Plans.map PlanT.cells))), (22, (I (((a0.Plans.map PlanT.cells).length : Nat) : Int))), (23, (I ((k12 : Nat) : Int))), (29, (LV.ro 3 (x12.Ports.map LinkT.cells))), (30, (I (((x12.Ports.map LinkT.cells).length : Nat) : Int))), (31, (I ((0 : Nat) : Int)))] 3 [(0, (.row 47 3 [[(I a0.Segs), (LV.ro 2 (a0.Plans.map PlanT.cells)), (LV.ro 2 (a0.Hosts.map HostT.cells))]])), (1, (.row 3 1 [[(I a1)]])), (2, (.row 61 2 (s12.map A2_Int.cells)))] ⟨rfl, rfl, rfl, rfl, rfl, rfl, rfl, rfl, rfl, rfl, trivial⟩ ⟨⟨rfl, rfl, (by repeat' first | exact True.intro | exact rfl | exact NLs_bels (by assumption) | refine ⟨?_, ?_⟩)⟩, ⟨⟨rfl, rfl, (by repeat' first | exact True.intro | exact rfl | exact NLs_bels (by assumption) | refine ⟨?_, ?_⟩)⟩, ⟨⟨rfl, rfl, NLss_bel (NLss_map' _)⟩, trivial⟩⟩⟩ (by repeat' first | exact True.intro | exact rfl | exact NLs_bels (by assumption) | refine ⟨?_, ?_⟩) rfl ?_
        refine LoopW.forR (fun k13 s13 => [(2, (LV.ptr 0 0 0)), (3, (LV.ptr 1 0 0)), (8, (LV.sl 2 0 (s13.map A2_Int.cells).length)), (9, (I ((k12 : Nat) : Int))), (21, (LV.ro 2 (a0.Plans.map PlanT.cells))), (22, (I (((a0.Plans.map PlanT.cells).length : Nat) : Int))), (23, (I ((k12 : Nat) : Int))), (29, (LV.ro 3 (x12.Ports.map LinkT.cells))), (30, (I (((x12.Ports.map LinkT.cells).length : Nat) : Int))), (31, (I ((k13 : Nat) : Int)))]) (fun s13 => ⟨3, [(0, (.row 47 3 [[(I a0.Segs), (LV.ro 2 (a0.Plans.map PlanT.cells)), (LV.ro 2 (a0.Hosts.map HostT.cells))]])), (1, (.row 3 1 [[(I a1)]])), (2, (.row 61 2 (s13.map A2_Int.cells)))]⟩) hO13 (fun hl13 s13 hs13 => ?_) (fun hl13 k13 x13 s13 o13 hk13 hx13 b13 K13 hret13 hbrk13 => ?_)
        · rw [hs13] at r13
          dsimp only [aftM] at r13
          have hd : decide (((x12.Ports.length : Nat) : Int) < (((x12.Ports.map LinkT.cells).length : Nat) : Int)) = false := by rw [decide_eq_false_iff_not]; (try simp only [se_len, se_ch, List.length_map]); omega
          refine LoopW.round TT_ok [0, 1, 2, 3, 4, 5, 6, 7, 8, 9, 10, 11, 12, 13, 18, 21, 22, 23, 24, 29, 30, 31, 32, 43, 1000155, 2000155] ?_
          conv => whnf
          repeat' first | with_reducible rfl | with_reducible exact True.intro | with_reducible assumption | refine parkI ?_ | (refine And.intro ?_ ?_ <;> conv => whnf) | fail
          refine parkE (fun hc => ?_) (fun hc => ?_)
          · exact (Bool.false_ne_true (hd.symm.trans hc)).elim
          · clear hd
            conv => whnf
            repeat' first | with_reducible rfl | with_reducible exact True.intro | with_reducible assumption | refine parkI ?_ | (refine And.intro ?_ ?_ <;> conv => whnf) | fail
            have e := Option.some.inj r13
            refine LoopW.norm [(2, (LV.ptr 0 0 0)), (3, (LV.ptr 1 0 0)), (8, (LV.sl 2 0 (s13.map A2_Int.cells).length)), (21, (LV.ro 2 (a0.Plans.map PlanT.cells))), (22, (I (((a0.Plans.map PlanT.cells).length : Nat) : Int))), (23, (I ((k12 + 1 : Nat) : Int)))] 3 [(0, (.row 47 3 [[(I a0.Segs), (LV.ro 2 (a0.Plans.map PlanT.cells)), (LV.ro 2 (a0.Hosts.map HostT.cells))]])), (1, (.row 3 1 [[(I a1)]])), (2, (.row 61 2 (s13.map A2_Int.cells)))] ⟨rfl, rfl, rfl, rfl, rfl, (congrArg (LV.int .i64) (w64_nat _ (by omega))), trivial⟩ ⟨⟨rfl, rfl, (by repeat' first | exact True.intro | exact rfl | exact NLs_bels (by assumption) | refine ⟨?_, ?_⟩)⟩, ⟨⟨rfl, rfl, (by repeat' first | exact True.intro | exact rfl | exact NLs_bels (by assumption) | refine ⟨?_, ?_⟩)⟩, ⟨⟨rfl, rfl, NLss_bel (NLss_map' _)⟩, trivial⟩⟩⟩ (by repeat' first | exact True.intro | exact rfl | exact NLs_bels (by assumption) | refine ⟨?_, ?_⟩) rfl (K12 _ e.symm)
        · unfold lan_On_b13 at b13
          have hd : decide (((k13 : Nat) : Int) < (((x12.Ports.map LinkT.cells).length : Nat) : Int)) = true := by rw [decide_eq_true_eq]; (try simp only [se_len, se_ch, List.length_map] at hk13); (try simp only [se_len, se_ch, List.length_map]); omega
          refine LoopW.round TT_ok [0, 1, 2, 3, 4, 5, 6, 7, 8, 9, 10, 11, 12, 13, 18, 21, 22, 23, 24, 29, 30, 31, 32, 43, 1000155, 2000155] ?_
          conv => whnf
          repeat' first | with_reducible rfl | with_reducible exact True.intro | with_reducible assumption | refine parkI ?_ | (refine And.intro ?_ ?_ <;> conv => whnf) | fail
          refine parkE (fun hc => ?_) (fun hc => ?_)
          · clear hd
            conv => whnf
            repeat' first | with_reducible rfl | with_reducible exact True.intro | with_reducible assumption | refine parkI ?_ | (refine ⟨_, (kixF (f := LinkT.cells) hx13), ?_⟩; conv => whnf) | exact (congrArg Bool.not h) | exact fun _ => True.intro | (refine And.intro ?_ ?_ <;> conv => whnf) | (intro h; (conv => whnf) <;> first | with_reducible rfl | assumption | exact h | exact (congrArg Bool.not h) | (refine ⟨h, True.intro⟩) | (refine ⟨congrArg Bool.not h, True.intro⟩) | (refine ⟨by assumption, True.intro⟩)) | (intro h; exact (Bool.false_ne_true (h.symm.trans (by assumption))).elim) | (intro h; exact (Bool.false_ne_true (Eq.trans (Eq.symm (by assumption)) h)).elim) | (intros; simp_all; done) | (intros; exfalso; simp_all; done) | (refine gand ?_ h; assumption) | fail
            refine parkE (fun hc => ?_) (fun hc => ?_)
            · replace b13 := condT hc b13
              conv => whnf
              replace b13 := grdS b13
              obtain ⟨g3, b13⟩ := b13
              replace g3 : fits (((s13.map A2_Int.cells) ++ [[(I ((k12 : Nat) : Int)), (I ((k13 : Nat) : Int))]])).length 16 := by simpa only [se_len, se_ch, List.length_map] using g3
              repeat' first | with_reducible rfl | with_reducible exact True.intro | with_reducible assumption | refine parkI ?_ | exact g3 | exact (rfl : (_ : Nat) = _) | exact NLss_map' _ | refine NLss_app ?_ ?_ | refine NLss_rep ?_ | refine NLss_set ?_ ?_ | refine NLss_take ?_ | refine NLss_drop ?_ | (refine And.intro ?_ ?_ <;> conv => whnf) | (simp only [se_map, se_byL]; exact rfl) | (simp only [se_map, se_byL, se_len, se_ch, List.length_map]; done) | fail
              have e := Option.some.inj b13
              refine LoopW.ren [(0, 0), (1, 1), (5, 2)] [(2, (LV.ptr 0 0 0)), (3, (LV.ptr 1 0 0)), (8, (LV.sl 2 0 ((s13 ++ ([(⟨((k12 : Nat) : Int), ((k13 : Nat) : Int)⟩ : A2_Int)] : (List A2_Int))).map A2_Int.cells).length)), (9, (I ((k12 : Nat) : Int))), (21, (LV.ro 2 (a0.Plans.map PlanT.cells))), (22, (I (((a0.Plans.map PlanT.cells).length : Nat) : Int))), (23, (I ((k12 : Nat) : Int))), (29, (LV.ro 3 (x12.Ports.map LinkT.cells))), (30, (I (((x12.Ports.map LinkT.cells).length : Nat) : Int))), (31, (I ((k13 + 1 : Nat) : Int)))] 3 [(0, (.row 47 3 [[(I a0.Segs), (LV.ro 2 (a0.Plans.map PlanT.cells)), (LV.ro 2 (a0.Hosts.map HostT.cells))]])), (1, (.row 3 1 [[(I a1)]])), (2, (.row 61 2 ((s13 ++ ([(⟨((k12 : Nat) : Int), ((k13 : Nat) : Int)⟩ : A2_Int)] : (List A2_Int))).map A2_Int.cells)))] rfl ⟨rfl, rfl, (by exact congrArg (LV.sl 2 0) (by first | (simp only [se_map, se_byL, se_len, se_ch, List.length_map]; done) | ((try simp only [se_map, se_byL, se_len, se_ch, List.length_map]); (try simp only [se_len, se_ch, List.length_map] at *); omega) : (((s13.map A2_Int.cells) ++ [[(I ((k12 : Nat) : Int)), (I ((k13 : Nat) : Int))]])).length = ((s13 ++ ([(⟨((k12 : Nat) : Int), ((k13 : Nat) : Int)⟩ : A2_Int)] : (List A2_Int))).map A2_Int.cells).length)), rfl, rfl, rfl, rfl, rfl, rfl, (congrArg (LV.int .i64) (w64_nat _ (by omega))), trivial⟩ ⟨⟨rfl, rfl, .inl ⟨rfl, (by repeat' first | exact NLss_map' _ | refine NLss_app ?_ ?_ | refine NLss_set ?_ ?_ | refine NLss_rep ?_ | refine NLss_take ?_ | refine NLss_drop ?_ | exact True.intro | refine ⟨?_, ?_⟩)⟩⟩, rfl, rfl, ⟨⟨rfl, rfl, .inl ⟨rfl, (by repeat' first | exact NLss_map' _ | refine NLss_app ?_ ?_ | refine NLss_set ?_ ?_ | refine NLss_rep ?_ | refine NLss_take ?_ | refine NLss_drop ?_ | exact True.intro | refine ⟨?_, ?_⟩)⟩⟩, rfl, rfl, ⟨⟨rfl, rfl, .inl ⟨(by simp only [se_map, se_byL, se_len, se_ch, List.length_map] : (((s13.map A2_Int.cells) ++ [[(I ((k12 : Nat) : Int)), (I ((k13 : Nat) : Int))]]) : List (List LV)) = ((s13 ++ ([(⟨((k12 : Nat) : Int), ((k13 : Nat) : Int)⟩ : A2_Int)] : (List A2_Int))).map A2_Int.cells)), (by repeat' first | exact NLss_map' _ | refine NLss_app ?_ ?_ | refine NLss_set ?_ ?_ | refine NLss_rep ?_ | refine NLss_take ?_ | refine NLss_drop ?_ | exact True.intro | refine ⟨?_, ?_⟩)⟩⟩, rfl, rfl, trivial⟩⟩⟩ rfl (K13 _ e.symm)
            · replace b13 := condF hc b13
              conv => whnf
              repeat' first | with_reducible rfl | with_reducible exact True.intro | with_reducible assumption | refine parkI ?_ | (refine And.intro ?_ ?_ <;> conv => whnf) | fail
              have e := Option.some.inj b13
              refine LoopW.norm [(2, (LV.ptr 0 0 0)), (3, (LV.ptr 1 0 0)), (8, (LV.sl 2 0 (s13.map A2_Int.cells).length)), (9, (I ((k12 : Nat) : Int))), (21, (LV.ro 2 (a0.Plans.map PlanT.cells))), (22, (I (((a0.Plans.map PlanT.cells).length : Nat) : Int))), (23, (I ((k12 : Nat) : Int))), (29, (LV.ro 3 (x12.Ports.map LinkT.cells))), (30, (I (((x12.Ports.map LinkT.cells).length : Nat) : Int))), (31, (I ((k13 + 1 : Nat) : Int)))] 3 [(0, (.row 47 3 [[(I a0.Segs), (LV.ro 2 (a0.Plans.map PlanT.cells)), (LV.ro 2 (a0.Hosts.map HostT.cells))]])), (1, (.row 3 1 [[(I a1)]])), (2, (.row 61 2 (s13.map A2_Int.cells)))] ⟨rfl, rfl, rfl, rfl, rfl, rfl, rfl, rfl, rfl, (congrArg (LV.int .i64) (w64_nat _ (by omega))), trivial⟩ ⟨⟨rfl, rfl, (by repeat' first | exact True.intro | exact rfl | exact NLs_bels (by assumption) | refine ⟨?_, ?_⟩)⟩, ⟨⟨rfl, rfl, (by repeat' first | exact True.intro | exact rfl | exact NLs_bels (by assumption) | refine ⟨?_, ?_⟩)⟩, ⟨⟨rfl, rfl, NLss_bel (NLss_map' _)⟩, trivial⟩⟩⟩ (by repeat' first | exact True.intro | exact rfl | exact NLs_bels (by assumption) | refine ⟨?_, ?_⟩) rfl (K13 _ e.symm)
          · exact (Bool.false_ne_true (hc.symm.trans hd)).elim
      · exact (Bool.false_ne_true (hc.symm.trans hd)).elim

end Go.RX
