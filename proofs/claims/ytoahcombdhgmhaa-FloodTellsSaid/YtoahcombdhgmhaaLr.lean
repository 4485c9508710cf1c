/- Plain functions, and what says that the program's functions compute them. -/
import Derived.Test.YtoahcombdhgmhaaFa
import Derived.Test.YtoahcombdhgmhaaRXB
set_option linter.unusedVariables false
set_option linter.unusedSimpArgs false
open Go Go.RX Go.Proofs
namespace Go.RX
set_option maxRecDepth 10000
set_option maxHeartbeats 4000000
attribute [local irreducible] CallW CallP LoopW W IntKind.wrap bitI
def slices_Reverse_int_b21  (s21 : (Int × Int × (List Int))) : Option (Step (List Int) (Int × Int × (List Int))) :=
  (bif (decide (s21.1 < s21.2.1)) then
    grd ((0 : Int) ≤ s21.2.1 ∧ s21.2.1 < ((s21.2.2.length : Nat) : Int)) <|
    (gixN s21.2.2 (s21.2.1 : Int).toNat).bind fun v2 =>
    grd ((0 : Int) ≤ s21.1 ∧ s21.1 < ((s21.2.2.length : Nat) : Int)) <|
    (gixN s21.2.2 (s21.1 : Int).toNat).bind fun v5 =>
    grd ((0 : Int) ≤ s21.1 ∧ s21.1 < ((s21.2.2.length : Nat) : Int)) <|
    grd ((0 : Int) ≤ s21.2.1 ∧ s21.2.1 < (((s21.2.2.set (s21.1 : Int).toNat v2).length : Nat) : Int)) <|
    (gixN (s21.2.2.set (s21.1 : Int).toNat v2) (s21.2.1 : Int).toNat).bind fun v9 =>
    some (.nxt ((IntKind.i64.wrap (s21.1 + 1)), (IntKind.i64.wrap (s21.2.1 - 1)), ((s21.2.2.set (s21.1 : Int).toNat v2).set (s21.2.1 : Int).toNat v5)))
  else
    some (.brk (s21.1, s21.2.1, s21.2.2)))

def slices_Reverse_int (a0 : (List Int)) : Option (List Int) :=
  aft (loopF 1000000 (slices_Reverse_int_b21 ) (0, (IntKind.i64.wrap (((a0.length : Nat) : Int) - 1)), a0)) fun s21 =>
  some s21.2.2

theorem w_slices_Reverse_int (a0 : (List Int)) (r : (List Int)) (h : slices_Reverse_int a0 = some r) : CallW Try.prog 215 [(LV.sl 0 0 (a0.map iC).length)] ⟨1, [(0, (.row 3 1 (a0.map iC)))]⟩ (fun lv H' => lv = (LV.tup []) ∧ H' = ⟨1, [(0, (.row 3 1 (r.map iC)))]⟩) := by
  unfold slices_Reverse_int at h
  refine CallW.shrink (CallW.intro TT_ok Try.func215 rfl rfl [0, 2, 3, 9] rfl ?_)
  conv => whnf
  repeat' first | with_reducible rfl | with_reducible exact True.intro | with_reducible assumption | refine parkI ?_ | (refine W.drawnM (id := 3) 0 TT_ok hmix1 [0, 0, 0, 0, 0, 0, 0, 0, 0, 0, 0, 0, 0, 0, 1, 1] [0, 0, 1, 1, 0, 0, 0, 0, 0, 0, 0, 0, 0, 1, 1, 2] rfl ?_; conv => whnf) | exact (congrArg Bool.not h) | exact fun _ => True.intro | exact (rfl : (_ : Nat) = _) | exact (rfl : (_ : LV) = _) | exact NLss_map' _ | refine NLss_app ?_ ?_ | refine NLss_rep ?_ | refine NLss_set ?_ ?_ | refine NLss_take ?_ | refine NLss_drop ?_ | (refine And.intro ?_ ?_ <;> conv => whnf) | (intro h; (conv => whnf) <;> first | with_reducible rfl | assumption | exact h | exact (congrArg Bool.not h) | (refine ⟨h, True.intro⟩) | (refine ⟨congrArg Bool.not h, True.intro⟩) | (refine ⟨by assumption, True.intro⟩)) | (intro h; exact (Bool.false_ne_true (h.symm.trans (by assumption))).elim) | (intro h; exact (Bool.false_ne_true (Eq.trans (Eq.symm (by assumption)) h)).elim) | (intros; simp_all; done) | (intros; exfalso; simp_all; done) | (refine gand ?_ h; assumption) | (simp only [se_map, se_byL]; exact rfl) | (simp only [se_map, se_byL, se_len, se_ch, List.length_map]; done) | fail
  replace h := aftS h
  obtain ⟨O21, hO21, r21⟩ := h
  refine LoopW.norm [(0, (LV.sl 0 0 ((0, (IntKind.i64.wrap (((a0.length : Nat) : Int) - 1)), a0).2.2.map iC).length)), (2, (I (0, (IntKind.i64.wrap (((a0.length : Nat) : Int) - 1)), a0).1)), (3, (I (0, (IntKind.i64.wrap (((a0.length : Nat) : Int) - 1)), a0).2.1))] 1 [(0, (.row 3 1 ((0, (IntKind.i64.wrap (((a0.length : Nat) : Int) - 1)), a0).2.2.map iC)))] ⟨(by exact congrArg (LV.sl 0 0) (by first | (simp only [se_map, se_byL, se_len, se_ch, List.length_map]; done) | ((try simp only [se_map, se_byL, se_len, se_ch, List.length_map]); (try simp only [se_len, se_ch, List.length_map] at *); omega) : (a0.map iC).length = ((0, (IntKind.i64.wrap (((a0.length : Nat) : Int) - 1)), a0).2.2.map iC).length)), (by simp only [se_map, se_byL, se_len, se_ch, List.length_map] : ((I 0) : LV) = (I (0, (IntKind.i64.wrap (((a0.length : Nat) : Int) - 1)), a0).1)), (by simp only [se_map, se_byL, se_len, se_ch, List.length_map] : ((I (IntKind.i64.wrap ((((a0.map iC).length : Nat) : Int) - 1))) : LV) = (I (0, (IntKind.i64.wrap (((a0.length : Nat) : Int) - 1)), a0).2.1)), trivial⟩ ⟨⟨(congrArg (fun q => some (Blk.row 3 1 q)) (by simp only [se_map, se_byL, se_len, se_ch, List.length_map] : ((a0.map iC) : List (List LV)) = ((0, (IntKind.i64.wrap (((a0.length : Nat) : Int) - 1)), a0).2.2.map iC))), rfl, NLss_bel (NLss_map' _)⟩, trivial⟩ (by repeat' first | exact True.intro | exact rfl | exact NLs_bels (by assumption) | refine ⟨?_, ?_⟩) rfl ?_
  refine LoopW.forF (fun s21 => [(0, (LV.sl 0 0 (s21.2.2.map iC).length)), (2, (I s21.1)), (3, (I s21.2.1))]) (fun s21 => ⟨1, [(0, (.row 3 1 (s21.2.2.map iC)))]⟩) hO21 (fun s21 o21 b21 K21 hret21 hbrk21 => ?_)
  unfold slices_Reverse_int_b21 at b21
  refine LoopW.round TT_ok [0, 2, 3, 9] ?_
  conv => whnf
  repeat' first | with_reducible rfl | with_reducible exact True.intro | with_reducible assumption | refine parkI ?_ | (refine W.drawnM (id := 3) 0 TT_ok hmix1 [0, 0, 0, 0, 0, 0, 0, 0, 0, 0, 0, 0, 0, 0, 1, 1] [0, 0, 1, 1, 0, 0, 0, 0, 0, 0, 0, 0, 0, 1, 1, 2] rfl ?_; conv => whnf) | exact (congrArg Bool.not h) | exact fun _ => True.intro | exact (rfl : (_ : Nat) = _) | exact (rfl : (_ : LV) = _) | exact NLss_map' _ | refine NLss_app ?_ ?_ | refine NLss_rep ?_ | refine NLss_set ?_ ?_ | refine NLss_take ?_ | refine NLss_drop ?_ | (refine And.intro ?_ ?_ <;> conv => whnf) | (intro h; (conv => whnf) <;> first | with_reducible rfl | assumption | exact h | exact (congrArg Bool.not h) | (refine ⟨h, True.intro⟩) | (refine ⟨congrArg Bool.not h, True.intro⟩) | (refine ⟨by assumption, True.intro⟩)) | (intro h; exact (Bool.false_ne_true (h.symm.trans (by assumption))).elim) | (intro h; exact (Bool.false_ne_true (Eq.trans (Eq.symm (by assumption)) h)).elim) | (intros; simp_all; done) | (intros; exfalso; simp_all; done) | (refine gand ?_ h; assumption) | (simp only [se_map, se_byL]; exact rfl) | (simp only [se_map, se_byL, se_len, se_ch, List.length_map]; done) | fail
  refine parkE (fun hc => ?_) (fun hc => ?_)
  · replace b21 := condT hc b21
    conv => whnf
    replace b21 := grdS b21
    obtain ⟨g1, b21⟩ := b21
    replace g1 : (0 : Int) ≤ s21.2.1 ∧ s21.2.1 < (((s21.2.2.map iC).length : Nat) : Int) := by simpa only [se_len, se_ch, List.length_map] using g1
    replace b21 := bindS b21
    obtain ⟨v2, hv2, b21⟩ := b21
    have i3 : nth (s21.2.2.map iC) (0 + ((s21.2.1 : Int).toNat)) = some [(I v2)] := by simpa only [se_map, se_len, se_ch, List.length_map, nth_eq, Nat.zero_add, List.getElem?_map] using gixNF (f := iC) hv2
    replace b21 := grdS b21
    obtain ⟨g4, b21⟩ := b21
    replace g4 : (0 : Int) ≤ s21.1 ∧ s21.1 < (((s21.2.2.map iC).length : Nat) : Int) := by simpa only [se_len, se_ch, List.length_map] using g4
    replace b21 := bindS b21
    obtain ⟨v5, hv5, b21⟩ := b21
    have i6 : nth (s21.2.2.map iC) (0 + ((s21.1 : Int).toNat)) = some [(I v5)] := by simpa only [se_map, se_len, se_ch, List.length_map, nth_eq, Nat.zero_add, List.getElem?_map] using gixNF (f := iC) hv5
    replace b21 := grdS b21
    obtain ⟨g7, b21⟩ := b21
    replace g7 : (0 : Int) ≤ s21.1 ∧ s21.1 < (((s21.2.2.map iC).length : Nat) : Int) := by simpa only [se_len, se_ch, List.length_map] using g7
    replace b21 := grdS b21
    obtain ⟨g8, b21⟩ := b21
    replace g8 : (0 : Int) ≤ s21.2.1 ∧ s21.2.1 < (((s21.2.2.map iC).length : Nat) : Int) := by simpa only [se_len, se_ch, List.length_map] using g8
    replace b21 := bindS b21
    obtain ⟨v9, hv9, b21⟩ := b21
    have i10 : nth (setN (s21.2.2.map iC) (0 + ((s21.1 : Int).toNat)) [(I v2)]) (0 + ((s21.2.1 : Int).toNat)) = some [(I v9)] := by simpa only [se_map, se_len, se_ch, List.length_map, nth_eq, Nat.zero_add, List.getElem?_map] using gixNF (f := iC) hv9
    repeat' first | with_reducible rfl | with_reducible exact True.intro | with_reducible assumption | refine parkI ?_ | exact g1 | exact g4 | exact g7 | exact g8 | (rw [i3]; conv => whnf) | (rw [i6]; conv => whnf) | (first | (rw [i10]; conv => whnf) | (erw [i10]; conv => whnf)) | (refine W.drawnM (id := 3) 0 TT_ok hmix1 [0, 0, 0, 0, 0, 0, 0, 0, 0, 0, 0, 0, 0, 0, 1, 1] [0, 0, 1, 1, 0, 0, 0, 0, 0, 0, 0, 0, 0, 1, 1, 2] rfl ?_; conv => whnf) | exact (congrArg Bool.not h) | exact fun _ => True.intro | exact (rfl : (_ : Nat) = _) | exact (rfl : (_ : LV) = _) | exact NLss_map' _ | refine NLss_app ?_ ?_ | refine NLss_rep ?_ | refine NLss_set ?_ ?_ | refine NLss_take ?_ | refine NLss_drop ?_ | (refine And.intro ?_ ?_ <;> conv => whnf) | (intro h; (conv => whnf) <;> first | with_reducible rfl | assumption | exact h | exact (congrArg Bool.not h) | (refine ⟨h, True.intro⟩) | (refine ⟨congrArg Bool.not h, True.intro⟩) | (refine ⟨by assumption, True.intro⟩)) | (intro h; exact (Bool.false_ne_true (h.symm.trans (by assumption))).elim) | (intro h; exact (Bool.false_ne_true (Eq.trans (Eq.symm (by assumption)) h)).elim) | (intros; simp_all; done) | (intros; exfalso; simp_all; done) | (refine gand ?_ h; assumption) | (simp only [se_map, se_byL]; exact rfl) | (simp only [se_map, se_byL, se_len, se_ch, List.length_map]; done) | fail
    have e := Option.some.inj b21
    refine LoopW.norm [(0, (LV.sl 0 0 (((IntKind.i64.wrap (s21.1 + 1)), (IntKind.i64.wrap (s21.2.1 - 1)), ((s21.2.2.set (s21.1 : Int).toNat v2).set (s21.2.1 : Int).toNat v5)).2.2.map iC).length)), (2, (I ((IntKind.i64.wrap (s21.1 + 1)), (IntKind.i64.wrap (s21.2.1 - 1)), ((s21.2.2.set (s21.1 : Int).toNat v2).set (s21.2.1 : Int).toNat v5)).1)), (3, (I ((IntKind.i64.wrap (s21.1 + 1)), (IntKind.i64.wrap (s21.2.1 - 1)), ((s21.2.2.set (s21.1 : Int).toNat v2).set (s21.2.1 : Int).toNat v5)).2.1))] 1 [(0, (.row 3 1 (((IntKind.i64.wrap (s21.1 + 1)), (IntKind.i64.wrap (s21.2.1 - 1)), ((s21.2.2.set (s21.1 : Int).toNat v2).set (s21.2.1 : Int).toNat v5)).2.2.map iC)))] ⟨(by exact congrArg (LV.sl 0 0) (by first | (simp only [se_map, se_byL, se_len, se_ch, List.length_map]; done) | ((try simp only [se_map, se_byL, se_len, se_ch, List.length_map]); (try simp only [se_len, se_ch, List.length_map] at *); omega) : (s21.2.2.map iC).length = (((IntKind.i64.wrap (s21.1 + 1)), (IntKind.i64.wrap (s21.2.1 - 1)), ((s21.2.2.set (s21.1 : Int).toNat v2).set (s21.2.1 : Int).toNat v5)).2.2.map iC).length)), (by simp only [se_map, se_byL, se_len, se_ch, List.length_map] : ((I (IntKind.i64.wrap (s21.1 + 1))) : LV) = (I ((IntKind.i64.wrap (s21.1 + 1)), (IntKind.i64.wrap (s21.2.1 - 1)), ((s21.2.2.set (s21.1 : Int).toNat v2).set (s21.2.1 : Int).toNat v5)).1)), (by simp only [se_map, se_byL, se_len, se_ch, List.length_map] : ((I (IntKind.i64.wrap (s21.2.1 - 1))) : LV) = (I ((IntKind.i64.wrap (s21.1 + 1)), (IntKind.i64.wrap (s21.2.1 - 1)), ((s21.2.2.set (s21.1 : Int).toNat v2).set (s21.2.1 : Int).toNat v5)).2.1)), trivial⟩ ⟨⟨(congrArg (fun q => some (Blk.row 3 1 q)) (by simp only [se_map, se_byL, se_len, se_ch, List.length_map] : ((setN (setN (s21.2.2.map iC) (0 + ((s21.1 : Int).toNat)) [(I v2)]) (0 + ((s21.2.1 : Int).toNat)) [(I v5)]) : List (List LV)) = (((IntKind.i64.wrap (s21.1 + 1)), (IntKind.i64.wrap (s21.2.1 - 1)), ((s21.2.2.set (s21.1 : Int).toNat v2).set (s21.2.1 : Int).toNat v5)).2.2.map iC))), rfl, NLss_bel (NLss_map' _)⟩, trivial⟩ (by repeat' first | exact True.intro | exact rfl | exact NLs_bels (by assumption) | refine ⟨?_, ?_⟩) rfl (K21 _ e.symm)
  · replace b21 := condF hc b21
    conv => whnf
    have e := Option.some.inj b21
    replace e := hbrk21 _ e.symm
    rw [e] at r21
    dsimp only [aftM] at r21
    have e := Option.some.inj r21
    subst e
    repeat' first | with_reducible rfl | with_reducible exact True.intro | with_reducible assumption | exact ⟨[(0, (.row 3 1 (s21.2.2.map iC)))], ⟨⟨rfl, rfl, NLss_bel (NLss_map' _)⟩, trivial⟩, (by repeat' first | exact True.intro | exact rfl | exact NLs_bels (by assumption) | refine ⟨?_, ?_⟩), rfl, rfl⟩ | (refine W.drawnM (id := 3) 0 TT_ok hmix1 [0, 0, 0, 0, 0, 0, 0, 0, 0, 0, 0, 0, 0, 0, 1, 1] [0, 0, 1, 1, 0, 0, 0, 0, 0, 0, 0, 0, 0, 1, 1, 2] rfl ?_; conv => whnf) | exact (congrArg Bool.not h) | exact fun _ => True.intro | exact (rfl : (_ : Nat) = _) | exact (rfl : (_ : LV) = _) | exact NLss_map' _ | refine NLss_app ?_ ?_ | refine NLss_rep ?_ | refine NLss_set ?_ ?_ | refine NLss_take ?_ | refine NLss_drop ?_ | (refine And.intro ?_ ?_ <;> conv => whnf) | (intro h; (conv => whnf) <;> first | with_reducible rfl | assumption | exact h | exact (congrArg Bool.not h) | (refine ⟨h, True.intro⟩) | (refine ⟨congrArg Bool.not h, True.intro⟩) | (refine ⟨by assumption, True.intro⟩)) | (intro h; exact (Bool.false_ne_true (h.symm.trans (by assumption))).elim) | (intro h; exact (Bool.false_ne_true (Eq.trans (Eq.symm (by assumption)) h)).elim) | (intros; simp_all; done) | (intros; exfalso; simp_all; done) | (refine gand ?_ h; assumption) | (simp only [se_map, se_byL]; exact rfl) | (simp only [se_map, se_byL, se_len, se_ch, List.length_map]; done) | fail

end Go.RX
