/- Plain functions, and what says that the program's functions compute them. -/
import Derived.Test.YtknjenjjhdhemaaUa
set_option linter.unusedVariables false
set_option linter.unusedSimpArgs false
open Go Go.RX Go.Proofs
namespace Go.RX
set_option maxRecDepth 10000
set_option maxHeartbeats 4000000
attribute [local irreducible] CallW CallP LoopW W IntKind.wrap bitI
def slices_IndexFunc_Entry_c0 (q1 : (EntryT → Option Bool)) (k5 : Nat) (x5 : EntryT) (s5 : Unit) : Option (Step Int Unit) :=
  (q1 x5).bind fun y11 =>
  (bif y11 then
    some (.ret ((k5 : Nat) : Int))
  else
    some (.nxt ()))

def slices_IndexFunc_Entry (a0 : (List EntryT)) (q1 : (EntryT → Option Bool)) : Option Int :=
  aft (rangeL (slices_IndexFunc_Entry_c0 q1) a0 ()) fun s5 =>
  some (-1)

theorem c_slices_IndexFunc_Entry (a0 : (List EntryT)) (fn1 : Nat) (ff1 fc1 : List LV) (q1 : (EntryT → Option Bool)) (hq1 : ∀ (x0 : EntryT) (r : Bool), q1 x0 = some r → CallP Try.prog fn1 (ff1 ++ [(LV.agg [(I x0.Mac), (I x0.Port), (I x0.Seen), (LV.bool x0.Static)])] ++ fc1) (LV.bool r)) (hn1 : NLs ff1 ∧ NLs fc1) (r : Int) (h : slices_IndexFunc_Entry a0 q1 = some r) : CallP Try.prog 103 [(LV.ro 4 (a0.map EntryT.cells)), (LV.func (.func fn1) ff1 fc1)] (I r) := by
  have hnA1 := hn1.1
  have hnB1 := hn1.2
  unfold slices_IndexFunc_Entry at h
  refine .intro nlA (.intro TT_ok Try.func103 rfl rfl [0, 1, 4, 5, 7, 8, 9, 16] rfl ?_)
  conv => whnf
  repeat' first | with_reducible rfl | with_reducible exact True.intro | with_reducible assumption | refine parkI ?_ | (refine And.intro ?_ ?_ <;> conv => whnf) | fail
  replace h := aftS h
  obtain ⟨O5, hO5, r5⟩ := h
  refine LoopW.norm [(0, (LV.ro 4 (a0.map EntryT.cells))), (1, (LV.func (.func fn1) ff1 fc1)), (7, (I (((a0.map EntryT.cells).length : Nat) : Int))), (8, (I ((0 : Nat) : Int)))] 0 [] ⟨rfl, rfl, rfl, rfl, trivial⟩ trivial blT rfl ?_
  refine LoopW.forR (fun k5 s5 => [(0, (LV.ro 4 (a0.map EntryT.cells))), (1, (LV.func (.func fn1) ff1 fc1)), (7, (I (((a0.map EntryT.cells).length : Nat) : Int))), (8, (I ((k5 : Nat) : Int)))]) (fun s5 => ⟨0, []⟩) hO5 (fun hl5 s5 hs5 => ?_) (fun hl5 k5 x5 s5 o5 hk5 hx5 b5 K5 hret5 hbrk5 => ?_)
  · rw [hs5] at r5
    dsimp only [aftM] at r5
    have hd : decide (((a0.length : Nat) : Int) < (((a0.map EntryT.cells).length : Nat) : Int)) = false := by rw [decide_eq_false_iff_not]; (try simp only [se_len, se_ch, List.length_map]); omega
    refine LoopW.round TT_ok [0, 1, 4, 5, 7, 8, 9, 16] ?_
    conv => whnf
    repeat' first | with_reducible rfl | with_reducible exact True.intro | with_reducible assumption | refine parkI ?_ | (refine And.intro ?_ ?_ <;> conv => whnf) | fail
    refine parkE (fun hc => ?_) (fun hc => ?_)
    · exact (Bool.false_ne_true (hd.symm.trans hc)).elim
    · clear hd
      conv => whnf
      have e := Option.some.inj r5
      subst e
      repeat' first | with_reducible rfl | with_reducible exact True.intro | with_reducible assumption | exact clA _ | (refine And.intro ?_ ?_ <;> conv => whnf) | exact clG _ | (refine gand ?_ h; assumption) | exact clN _ | fail
  · unfold slices_IndexFunc_Entry_c0 at b5
    have hd : decide (((k5 : Nat) : Int) < (((a0.map EntryT.cells).length : Nat) : Int)) = true := by rw [decide_eq_true_eq]; (try simp only [se_len, se_ch, List.length_map] at hk5); (try simp only [se_len, se_ch, List.length_map]); omega
    refine LoopW.round TT_ok [0, 1, 4, 5, 7, 8, 9, 16] ?_
    conv => whnf
    repeat' first | with_reducible rfl | with_reducible exact True.intro | with_reducible assumption | refine parkI ?_ | (refine And.intro ?_ ?_ <;> conv => whnf) | fail
    refine parkE (fun hc => ?_) (fun hc => ?_)
    · clear hd
      conv => whnf
      replace b5 := bindS b5
      obtain ⟨y11, hy11, b5⟩ := b5
      have c12 := hq1 x5 _ hy11
      repeat' first | with_reducible rfl | with_reducible exact True.intro | with_reducible assumption | refine parkI ?_ | (refine ⟨_, (kixF (f := EntryT.cells) hx5), ?_⟩; conv => whnf) | (refine CallP.use c12 ?_; conv => whnf) | (refine frzB_call rfl (slN_nil hn1) ?_; conv => whnf) | (refine And.intro ?_ ?_ <;> conv => whnf) | fail
      refine parkE (fun hc => ?_) (fun hc => ?_)
      · replace b5 := condT hc b5
        conv => whnf
        have e := Option.some.inj b5
        replace e := hret5 _ e.symm
        rw [e] at r5
        replace e := Option.some.inj r5
        subst e
        repeat' first | with_reducible rfl | with_reducible exact True.intro | with_reducible assumption | exact clA _ | (refine And.intro ?_ ?_ <;> conv => whnf) | exact clG _ | (refine gand ?_ h; assumption) | exact clN _ | fail
      · replace b5 := condF hc b5
        conv => whnf
        repeat' first | with_reducible rfl | with_reducible exact True.intro | with_reducible assumption | refine parkI ?_ | (refine And.intro ?_ ?_ <;> conv => whnf) | fail
        have e := Option.some.inj b5
        refine LoopW.norm [(0, (LV.ro 4 (a0.map EntryT.cells))), (1, (LV.func (.func fn1) ff1 fc1)), (7, (I (((a0.map EntryT.cells).length : Nat) : Int))), (8, (I ((k5 + 1 : Nat) : Int)))] 0 [] ⟨rfl, rfl, rfl, (congrArg (LV.int .i64) (w64_nat _ (by omega))), trivial⟩ trivial blT rfl (K5 _ e.symm)
    · exact (Bool.false_ne_true (hc.symm.trans hd)).elim

def fdb_place_1 (a0 : EntryT) (q1 : Int) : Option Bool :=
  some (decide (a0.Mac = q1))

theorem c_fdb_place_1 (a0 : EntryT) (q1 : Int) (r : Bool) (h : fdb_place_1 a0 q1 = some r) : CallP Try.prog 104 [(LV.agg [(I a0.Mac), (I a0.Port), (I a0.Seen), (LV.bool a0.Static)]), (LV.rptr [(I q1)])] (LV.bool r) := by
  unfold fdb_place_1 at h
  refine .intro nlA (.intro TT_ok Try.func104 rfl rfl [0, 1, 2, 3] rfl ?_)
  conv => whnf
  have e := Option.some.inj h
  subst e
  repeat' first | with_reducible rfl | with_reducible exact True.intro | with_reducible assumption | exact clA _ | (refine And.intro ?_ ?_ <;> conv => whnf) | exact clG _ | (refine gand ?_ h; assumption) | exact clN _ | fail

def fdb_place (a0 : TableT) (a1 : Int) : Option (Int × Int) :=
  (hash_Bucket a1 ((a0.Buckets.length : Nat) : Int)).bind fun y7 =>
  (gix a0.Buckets y7.1).bind fun v9 =>
  (slices_IndexFunc_Entry v9 (fun x0_ => fdb_place_1 x0_ a1)).bind fun y13 =>
  some (y7.1, y13)

theorem c_fdb_place (a0 : TableT) (a1 : Int) (r : (Int × Int)) (h : fdb_place a0 a1 = some r) : CallP Try.prog 71 [(LV.agg [(LV.ro 1 (a0.Buckets.map (roC 4 EntryT.cells))), (I a0.Slots), (I a0.Age)]), (I a1)] (LV.tup [(I r.1), (I r.2)]) := by
  unfold fdb_place at h
  refine .intro nlA (.intro TT_ok Try.func71 rfl rfl [0, 1, 2, 3, 4, 5, 6] rfl ?_)
  conv => whnf
  replace h := bindS h
  obtain ⟨y7, hy7, h⟩ := h
  have c8 : CallP Try.prog 101 [(I a1), (I (((a0.Buckets.map (roC 4 EntryT.cells)).length : Nat) : Int))] (LV.tup [(I y7.1), (I y7.2)]) := by first | exact c_hash_Bucket a1 ((a0.Buckets.length : Nat) : Int) _ hy7 | (simpa only [se_map, se_byL, se_len, se_ch, List.length_map] using c_hash_Bucket a1 ((a0.Buckets.length : Nat) : Int) _ hy7)
  replace h := bindS h
  obtain ⟨v9, hv9, h⟩ := h
  have i10 := gixF (f := (roC 4 EntryT.cells)) hv9
  replace h := bindS h
  obtain ⟨y13, hy13, h⟩ := h
  have c14 := c_slices_IndexFunc_Entry v9 104 [] [(LV.rptr [(I a1)])] (fun x0_ => fdb_place_1 x0_ a1) (fun x0_ r h => c_fdb_place_1 x0_ a1 r h) nlB _ hy13
  have e := Option.some.inj h
  subst e
  repeat' first | with_reducible rfl | with_reducible exact True.intro | with_reducible assumption | (refine ⟨_, i10, ?_⟩; conv => whnf) | (refine CallP.use c8 ?_; conv => whnf) | (refine CallP.use c14 ?_; conv => whnf) | exact clA _ | (refine And.intro ?_ ?_ <;> conv => whnf) | exact clG _ | (refine gand ?_ h; assumption) | exact clN _ | fail

def fdb_Find (a0 : TableT) (a1 : Int) (a2 : Int) : Option (Int × Int) :=
  (fdb_Right a0).bind fun y1 =>
  (gd (!(!y1)) (fdb_isMac a1)).bind fun y3 =>
  (gd (!(bif (!y1) then true else (!y3))) (fdb_isTime a2)).bind fun y5 =>
  (bif (bif (bif (!y1) then true else (!y3)) then true else (!y5)) then
    some (0, 1)
  else
    (fdb_place a0 a1).bind fun y15 =>
    (bif (decide (y15.2 < 0)) then
      some ((-1), 0)
    else
      (gix a0.Buckets y15.1).bind fun v17 =>
      (gix v17 y15.2).bind fun v19 =>
      (bif (bif v19.Static then true else (decide ((IntKind.i64.wrap (a2 - v19.Seen)) ≤ a0.Age))) then
        some (v19.Port, 0)
      else
        some ((-1), 0))))

theorem c_fdb_Find (a0 : TableT) (a1 : Int) (a2 : Int) (r : (Int × Int)) (h : fdb_Find a0 a1 a2 = some r) : CallP Try.prog 39 [(LV.agg [(LV.ro 1 (a0.Buckets.map (roC 4 EntryT.cells))), (I a0.Slots), (I a0.Age)]), (I a1), (I a2)] (LV.tup [(I r.1), (I r.2)]) := by
  unfold fdb_Find at h
  refine .intro nlA (.intro TT_ok Try.func39 rfl rfl [0, 1, 2, 3, 6, 7, 8, 9, 10, 23, 31, 50] rfl ?_)
  conv => whnf
  replace h := bindS h
  obtain ⟨y1, hy1, h⟩ := h
  have c2 := c_fdb_Right a0 _ hy1
  replace h := bindS h
  obtain ⟨y3, hy3, h⟩ := h
  have c4 := fun (hg : (!(!y1)) = true) => c_fdb_isMac a1 _ (gdS hg hy3)
  replace h := bindS h
  obtain ⟨y5, hy5, h⟩ := h
  have c6 := fun (hg : (!(bif (!y1) then true else (!y3))) = true) => c_fdb_isTime a2 _ (gdS hg hy5)
  repeat' first | with_reducible rfl | with_reducible exact True.intro | with_reducible assumption | refine parkI ?_ | (refine ⟨_, c4, ?_⟩; conv => whnf) | (refine ⟨_, c6, ?_⟩; conv => whnf) | (refine CallP.use c2 ?_; conv => whnf) | exact clA _ | (refine And.intro ?_ ?_ <;> conv => whnf) | exact clG _ | (refine gand ?_ h; assumption) | fail
  refine parkE (fun hc => ?_) (fun hc => ?_)
  · replace h := condT hc h
    conv => whnf
    have e := Option.some.inj h
    subst e
    repeat' first | with_reducible rfl | with_reducible exact True.intro | with_reducible assumption | exact clA _ | (refine And.intro ?_ ?_ <;> conv => whnf) | exact clG _ | (refine gand ?_ h; assumption) | exact clN _ | fail
  · replace h := condF hc h
    conv => whnf
    replace h := bindS h
    obtain ⟨y15, hy15, h⟩ := h
    have c16 := c_fdb_place a0 a1 _ hy15
    repeat' first | with_reducible rfl | with_reducible exact True.intro | with_reducible assumption | refine parkI ?_ | (refine CallP.use c16 ?_; conv => whnf) | (refine And.intro ?_ ?_ <;> conv => whnf) | fail
    refine parkE (fun hc => ?_) (fun hc => ?_)
    · replace h := condT hc h
      conv => whnf
      have e := Option.some.inj h
      subst e
      repeat' first | with_reducible rfl | with_reducible exact True.intro | with_reducible assumption | exact clA _ | (refine And.intro ?_ ?_ <;> conv => whnf) | exact clG _ | (refine gand ?_ h; assumption) | exact clN _ | fail
    · replace h := condF hc h
      conv => whnf
      replace h := bindS h
      obtain ⟨v17, hv17, h⟩ := h
      have i18 := gixF (f := (roC 4 EntryT.cells)) hv17
      replace h := bindS h
      obtain ⟨v19, hv19, h⟩ := h
      have i20 := gixF (f := EntryT.cells) hv19
      repeat' first | with_reducible rfl | with_reducible exact True.intro | with_reducible assumption | refine parkI ?_ | (refine ⟨_, i18, ?_⟩; conv => whnf) | (refine ⟨_, i20, ?_⟩; conv => whnf) | exact clA _ | (refine And.intro ?_ ?_ <;> conv => whnf) | exact clG _ | (refine gand ?_ h; assumption) | fail
      refine parkE (fun hc => ?_) (fun hc => ?_)
      · replace h := condT hc h
        conv => whnf
        have e := Option.some.inj h
        subst e
        repeat' first | with_reducible rfl | with_reducible exact True.intro | with_reducible assumption | exact clA _ | (refine And.intro ?_ ?_ <;> conv => whnf) | exact clG _ | (refine gand ?_ h; assumption) | exact clN _ | fail
      · replace h := condF hc h
        conv => whnf
        have e := Option.some.inj h
        subst e
        repeat' first | with_reducible rfl | with_reducible exact True.intro | with_reducible assumption | exact clA _ | (refine And.intro ?_ ?_ <;> conv => whnf) | exact clG _ | (refine gand ?_ h; assumption) | exact clN _ | fail

def fdb_pinned (a0 : TableT) (a1 : Int) : Option Bool :=
  (fdb_place a0 a1).bind fun y29 =>
  (gd (decide (0 ≤ y29.2)) (gix a0.Buckets y29.1)).bind fun v31 =>
  (gd (decide (0 ≤ y29.2)) (gix v31 y29.2)).bind fun v33 =>
  some (bif (decide (0 ≤ y29.2)) then v33.Static else false)

theorem c_fdb_pinned (a0 : TableT) (a1 : Int) (r : Bool) (h : fdb_pinned a0 a1 = some r) : CallP Try.prog 76 [(LV.agg [(LV.ro 1 (a0.Buckets.map (roC 4 EntryT.cells))), (I a0.Slots), (I a0.Age)]), (I a1)] (LV.bool r) := by
  unfold fdb_pinned at h
  refine .intro nlA (.intro TT_ok Try.func76 rfl rfl [0, 1, 2, 4, 5, 6] rfl ?_)
  conv => whnf
  replace h := bindS h
  obtain ⟨y29, hy29, h⟩ := h
  have c30 := c_fdb_place a0 a1 _ hy29
  replace h := bindS h
  obtain ⟨v31, hv31, h⟩ := h
  have i32 := fun hg => gixF (f := (roC 4 EntryT.cells)) (gdS hg hv31)
  replace h := bindS h
  obtain ⟨v33, hv33, h⟩ := h
  have i34 := fun hg => gixF (f := EntryT.cells) (gdS hg hv33)
  have e := Option.some.inj h
  subst e
  repeat' first | with_reducible rfl | with_reducible exact True.intro | with_reducible assumption | (refine ⟨_, i32, ?_⟩; conv => whnf) | (refine ⟨_, i34, ?_⟩; conv => whnf) | (refine CallP.use c30 ?_; conv => whnf) | exact clA _ | (refine And.intro ?_ ?_ <;> conv => whnf) | exact clG _ | (refine gand ?_ h; assumption) | exact clN _ | fail

def slices_Clone_Entry (a0 : (List EntryT)) : Option (List EntryT) :=
  grd (fits a0.length 32) <|
  some a0

theorem cf_slices_Clone_Entry (a0 : (List EntryT)) (r : (List EntryT)) (h : slices_Clone_Entry a0 = some r) : CallF Try.prog 107 [(LV.ro 4 (a0.map EntryT.cells))] 116 4 (r.map EntryT.cells) := by
  unfold slices_Clone_Entry at h
  replace h := grdS h
  obtain ⟨g, h⟩ := h
  obtain rfl := Option.some.inj h
  have f1 : fits (([] : List (List LV)) ++ a0.map EntryT.cells).length 32 := by rw [List.nil_append, List.length_map]; exact g
  refine CallF.of (NLss_map' _) (CallW.intro TT_ok Try.func107 rfl rfl [0, 2, 4] rfl ?_)
  conv => whnf
  repeat' first | with_reducible rfl | with_reducible exact True.intro | refine parkI ?_ | exact f1 | exact Or.inl ⟨rfl, by assumption⟩ | exact Or.inr ⟨_, rfl, rfl⟩ | exact (rfl : (_ : Nat) = _) | (refine And.intro ?_ ?_ <;> conv => whnf) | (intro h; conv => whnf) | (refine parkE (fun hc => ?_) (fun hc => ?_) <;> first | exact (Bool.false_ne_true hc).elim | exact (Bool.false_ne_true hc.symm).elim | conv => whnf) | fail

theorem c_slices_Clone_Entry (a0 : (List EntryT)) (r : (List EntryT)) (h : slices_Clone_Entry a0 = some r) : CallP Try.prog 107 [(LV.ro 4 (a0.map EntryT.cells))] (LV.ro 4 (r.map EntryT.cells)) :=
  CallF.toP (cf_slices_Clone_Entry a0 r h) ⟨trivial, trivial⟩ (NLss_map' _)

def lru_Right_c0  (k7 : Nat) (x7 : Int) (s7 : (List (Int × Int))) : Option (Step Bool (List (Int × Int))) :=
  (bif (bif (decide (x7 < 0)) then true else (decide (1 < (IntKind.i64.wrap ((mget s7 x7 0) + 1))))) then
    some (.ret false)
  else
    some (.nxt (mput s7 x7 (IntKind.i64.wrap ((mget s7 x7 0) + 1)))))

def lru_Right (a0 : (List Int)) : Option Bool :=
  aft (rangeL (lru_Right_c0 ) a0 ([] : List (Int × Int))) fun s7 =>
  some (decide (((a0.length : Nat) : Int) ≤ 64))

theorem c_lru_Right (a0 : (List Int)) (r : Bool) (h : lru_Right a0 = some r) : CallP Try.prog 130 [(LV.ro 1 (a0.map iC))] (LV.bool r) := by
  unfold lru_Right at h
  refine .intro nlA (.intro TT_ok Try.func130 rfl rfl [0, 2, 3, 5, 7, 8, 9, 10, 24] rfl ?_)
  conv => whnf
  repeat' first | with_reducible rfl | with_reducible exact True.intro | with_reducible assumption | refine parkI ?_ | (refine And.intro ?_ ?_ <;> conv => whnf) | fail
  replace h := aftS h
  obtain ⟨O7, hO7, r7⟩ := h
  refine LoopW.norm [(0, (LV.ro 1 (a0.map iC))), (3, (LV.map 0)), (7, (LV.ro 1 (a0.map iC))), (8, (I (((a0.map iC).length : Nat) : Int))), (9, (I ((0 : Nat) : Int)))] 1 [(0, (.mp (([] : List (Int × Int)).map (mpC I I))))] ⟨rfl, rfl, rfl, rfl, rfl, trivial⟩ ⟨⟨(congrArg (fun q => some (Blk.mp q)) (by simp only [se_mp] : (([] : List (LV × LV)) : List (LV × LV)) = (([] : List (Int × Int)).map (mpC I I)))), rfl, bel_mp (f := I) (g := I) (fun _ => by repeat' first | exact True.intro | refine ⟨?_, ?_⟩) (fun _ => by repeat' first | exact True.intro | refine ⟨?_, ?_⟩) _ _⟩, trivial⟩ blT rfl ?_
  refine LoopW.forR (fun k7 s7 => [(0, (LV.ro 1 (a0.map iC))), (3, (LV.map 0)), (7, (LV.ro 1 (a0.map iC))), (8, (I (((a0.map iC).length : Nat) : Int))), (9, (I ((k7 : Nat) : Int)))]) (fun s7 => ⟨1, [(0, (.mp (s7.map (mpC I I))))]⟩) hO7 (fun hl7 s7 hs7 => ?_) (fun hl7 k7 x7 s7 o7 hk7 hx7 b7 K7 hret7 hbrk7 => ?_)
  · rw [hs7] at r7
    dsimp only [aftM] at r7
    have hd : decide (((a0.length : Nat) : Int) < (((a0.map iC).length : Nat) : Int)) = false := by rw [decide_eq_false_iff_not]; (try simp only [se_len, se_ch, List.length_map]); omega
    refine LoopW.round TT_ok [0, 2, 3, 5, 7, 8, 9, 10, 24] ?_
    conv => whnf
    repeat' first | with_reducible rfl | with_reducible exact True.intro | with_reducible assumption | refine parkI ?_ | (refine And.intro ?_ ?_ <;> conv => whnf) | fail
    refine parkE (fun hc => ?_) (fun hc => ?_)
    · exact (Bool.false_ne_true (hd.symm.trans hc)).elim
    · clear hd
      conv => whnf
      have e := Option.some.inj r7
      subst e
      repeat' first | with_reducible rfl | with_reducible exact True.intro | with_reducible assumption | exact clA _ | (refine And.intro ?_ ?_ <;> conv => whnf) | exact clG _ | (refine gand ?_ h; assumption) | exact clN _ | fail
  · unfold lru_Right_c0 at b7
    have hd : decide (((k7 : Nat) : Int) < (((a0.map iC).length : Nat) : Int)) = true := by rw [decide_eq_true_eq]; (try simp only [se_len, se_ch, List.length_map] at hk7); (try simp only [se_len, se_ch, List.length_map]); omega
    refine LoopW.round TT_ok [0, 2, 3, 5, 7, 8, 9, 10, 24] ?_
    conv => whnf
    repeat' first | with_reducible rfl | with_reducible exact True.intro | with_reducible assumption | refine parkI ?_ | (refine And.intro ?_ ?_ <;> conv => whnf) | fail
    refine parkE (fun hc => ?_) (fun hc => ?_)
    · clear hd
      conv => whnf
      rcases m1_ : mfind s7 x7 with _ | ⟨w1_, u1_⟩
      · try simp only [mget_none m1_, mput_none m1_, mhas_none m1_, mget_mput] at b7
        have f48 : Finds TT 3 ((s7.map (mpC I I)) ++ [((I x7), (I (IntKind.i64.wrap (0 + 1))))]) (I x7) (some (s7.length, (I (IntKind.i64.wrap (0 + 1))))) := by simpa only [se_mp] using finds_some (f := I) (g := I) ke_3 (mfind_app m1_ (IntKind.i64.wrap (0 + 1)))
        repeat' first | with_reducible rfl | with_reducible exact True.intro | with_reducible assumption | refine parkI ?_ | (refine ⟨_, (kixF (f := iC) hx7), ?_⟩; conv => whnf) | (refine ⟨_, (finds_none (g := I) ke_3 m1_), ?_⟩; conv => whnf) | (refine ⟨_, (fun _ => f48), ?_⟩; conv => whnf) | exact clA _ | (refine And.intro ?_ ?_ <;> conv => whnf) | exact clG _ | (refine gand ?_ h; assumption) | fail
        refine parkE (fun hc => ?_) (fun hc => ?_)
        · replace b7 := condT hc b7
          conv => whnf
          have e := Option.some.inj b7
          replace e := hret7 _ e.symm
          rw [e] at r7
          replace e := Option.some.inj r7
          subst e
          repeat' first | with_reducible rfl | with_reducible exact True.intro | with_reducible assumption | exact clA _ | (refine And.intro ?_ ?_ <;> conv => whnf) | exact clG _ | (refine gand ?_ h; assumption) | exact clN _ | fail
        · replace b7 := condF hc b7
          conv => whnf
          repeat' first | with_reducible rfl | with_reducible exact True.intro | with_reducible assumption | refine parkI ?_ | (refine And.intro ?_ ?_ <;> conv => whnf) | fail
          have e := Option.some.inj b7
          refine LoopW.norm [(0, (LV.ro 1 (a0.map iC))), (3, (LV.map 0)), (7, (LV.ro 1 (a0.map iC))), (8, (I (((a0.map iC).length : Nat) : Int))), (9, (I ((k7 + 1 : Nat) : Int)))] 1 [(0, (.mp ((s7 ++ [(x7, (IntKind.i64.wrap (0 + 1)))]).map (mpC I I))))] ⟨rfl, rfl, rfl, rfl, (congrArg (LV.int .i64) (w64_nat _ (by omega))), trivial⟩ ⟨⟨(congrArg (fun q => some (Blk.mp q)) (by simp only [se_mp] : (((s7.map (mpC I I)) ++ [((I x7), (I (IntKind.i64.wrap (0 + 1))))]) : List (LV × LV)) = ((s7 ++ [(x7, (IntKind.i64.wrap (0 + 1)))]).map (mpC I I)))), rfl, bel_mp (f := I) (g := I) (fun _ => by repeat' first | exact True.intro | refine ⟨?_, ?_⟩) (fun _ => by repeat' first | exact True.intro | refine ⟨?_, ?_⟩) _ _⟩, trivial⟩ blT rfl (K7 _ e.symm)
      · try simp only [mget_some m1_, mput_some m1_, mhas_some m1_, mget_mput] at b7
        have f48 : Finds TT 3 (setN (s7.map (mpC I I)) w1_ ((I x7), (I (IntKind.i64.wrap (u1_ + 1))))) (I x7) (some (w1_, (I (IntKind.i64.wrap (u1_ + 1))))) := by simpa only [se_mp] using finds_some (f := I) (g := I) ke_3 (mfind_set m1_ (IntKind.i64.wrap (u1_ + 1)))
        repeat' first | with_reducible rfl | with_reducible exact True.intro | with_reducible assumption | refine parkI ?_ | (refine ⟨_, (kixF (f := iC) hx7), ?_⟩; conv => whnf) | (refine ⟨_, (finds_some (g := I) ke_3 m1_), ?_⟩; conv => whnf) | (refine ⟨_, (fun _ => f48), ?_⟩; conv => whnf) | exact clA _ | (refine And.intro ?_ ?_ <;> conv => whnf) | exact clG _ | (refine gand ?_ h; assumption) | fail
        refine parkE (fun hc => ?_) (fun hc => ?_)
        · replace b7 := condT hc b7
          conv => whnf
          have e := Option.some.inj b7
          replace e := hret7 _ e.symm
          rw [e] at r7
          replace e := Option.some.inj r7
          subst e
          repeat' first | with_reducible rfl | with_reducible exact True.intro | with_reducible assumption | exact clA _ | (refine And.intro ?_ ?_ <;> conv => whnf) | exact clG _ | (refine gand ?_ h; assumption) | exact clN _ | fail
        · replace b7 := condF hc b7
          conv => whnf
          repeat' first | with_reducible rfl | with_reducible exact True.intro | with_reducible assumption | refine parkI ?_ | (refine And.intro ?_ ?_ <;> conv => whnf) | fail
          have e := Option.some.inj b7
          refine LoopW.norm [(0, (LV.ro 1 (a0.map iC))), (3, (LV.map 0)), (7, (LV.ro 1 (a0.map iC))), (8, (I (((a0.map iC).length : Nat) : Int))), (9, (I ((k7 + 1 : Nat) : Int)))] 1 [(0, (.mp ((s7.set w1_ (x7, (IntKind.i64.wrap (u1_ + 1)))).map (mpC I I))))] ⟨rfl, rfl, rfl, rfl, (congrArg (LV.int .i64) (w64_nat _ (by omega))), trivial⟩ ⟨⟨(congrArg (fun q => some (Blk.mp q)) (by simp only [se_mp] : ((setN (s7.map (mpC I I)) w1_ ((I x7), (I (IntKind.i64.wrap (u1_ + 1))))) : List (LV × LV)) = ((s7.set w1_ (x7, (IntKind.i64.wrap (u1_ + 1)))).map (mpC I I)))), rfl, bel_mp (f := I) (g := I) (fun _ => by repeat' first | exact True.intro | refine ⟨?_, ?_⟩) (fun _ => by repeat' first | exact True.intro | refine ⟨?_, ?_⟩) _ _⟩, trivial⟩ blT rfl (K7 _ e.symm)
    · exact (Bool.false_ne_true (hc.symm.trans hd)).elim

def slices_Clone_order (a0 : (List Int)) : Option (List Int) :=
  grd (fits a0.length 8) <|
  some a0

theorem cf_slices_Clone_order (a0 : (List Int)) (r : (List Int)) (h : slices_Clone_order a0 = some r) : CallF Try.prog 153 [(LV.ro 1 (a0.map iC))] 3 1 (r.map iC) := by
  unfold slices_Clone_order at h
  replace h := grdS h
  obtain ⟨g, h⟩ := h
  obtain rfl := Option.some.inj h
  have f1 : fits (([] : List (List LV)) ++ a0.map iC).length 8 := by rw [List.nil_append, List.length_map]; exact g
  refine CallF.of (NLss_map' _) (CallW.intro TT_ok Try.func153 rfl rfl [0, 2, 4] rfl ?_)
  conv => whnf
  repeat' first | with_reducible rfl | with_reducible exact True.intro | refine parkI ?_ | exact f1 | exact Or.inl ⟨rfl, by assumption⟩ | exact Or.inr ⟨_, rfl, rfl⟩ | exact (rfl : (_ : Nat) = _) | (refine And.intro ?_ ?_ <;> conv => whnf) | (intro h; conv => whnf) | (refine parkE (fun hc => ?_) (fun hc => ?_) <;> first | exact (Bool.false_ne_true hc).elim | exact (Bool.false_ne_true hc.symm).elim | conv => whnf) | fail

theorem c_slices_Clone_order (a0 : (List Int)) (r : (List Int)) (h : slices_Clone_order a0 = some r) : CallP Try.prog 153 [(LV.ro 1 (a0.map iC))] (LV.ro 1 (r.map iC)) :=
  CallF.toP (cf_slices_Clone_order a0 r h) ⟨trivial, trivial⟩ (NLss_map' _)

def slices_IndexFunc_order_c0 (q1 : (Int → Option Bool)) (k8 : Nat) (x8 : Int) (s8 : Unit) : Option (Step Int Unit) :=
  (q1 x8).bind fun y53 =>
  (bif y53 then
    some (.ret ((k8 : Nat) : Int))
  else
    some (.nxt ()))

def slices_IndexFunc_order (a0 : (List Int)) (q1 : (Int → Option Bool)) : Option Int :=
  aft (rangeL (slices_IndexFunc_order_c0 q1) a0 ()) fun s8 =>
  some (-1)

theorem c_slices_IndexFunc_order (a0 : (List Int)) (fn1 : Nat) (ff1 fc1 : List LV) (q1 : (Int → Option Bool)) (hq1 : ∀ (x0 : Int) (r : Bool), q1 x0 = some r → CallP Try.prog fn1 (ff1 ++ [(I x0)] ++ fc1) (LV.bool r)) (hn1 : NLs ff1 ∧ NLs fc1) (r : Int) (h : slices_IndexFunc_order a0 q1 = some r) : CallP Try.prog 163 [(LV.ro 1 (a0.map iC)), (LV.func (.func fn1) ff1 fc1)] (I r) := by
  have hnA1 := hn1.1
  have hnB1 := hn1.2
  unfold slices_IndexFunc_order at h
  refine .intro nlA (.intro TT_ok Try.func163 rfl rfl [0, 1, 4, 5, 7, 8, 9, 16] rfl ?_)
  conv => whnf
  repeat' first | with_reducible rfl | with_reducible exact True.intro | with_reducible assumption | refine parkI ?_ | (refine And.intro ?_ ?_ <;> conv => whnf) | fail
  replace h := aftS h
  obtain ⟨O8, hO8, r8⟩ := h
  refine LoopW.norm [(0, (LV.ro 1 (a0.map iC))), (1, (LV.func (.func fn1) ff1 fc1)), (7, (I (((a0.map iC).length : Nat) : Int))), (8, (I ((0 : Nat) : Int)))] 0 [] ⟨rfl, rfl, rfl, rfl, trivial⟩ trivial blT rfl ?_
  refine LoopW.forR (fun k8 s8 => [(0, (LV.ro 1 (a0.map iC))), (1, (LV.func (.func fn1) ff1 fc1)), (7, (I (((a0.map iC).length : Nat) : Int))), (8, (I ((k8 : Nat) : Int)))]) (fun s8 => ⟨0, []⟩) hO8 (fun hl8 s8 hs8 => ?_) (fun hl8 k8 x8 s8 o8 hk8 hx8 b8 K8 hret8 hbrk8 => ?_)
  · rw [hs8] at r8
    dsimp only [aftM] at r8
    have hd : decide (((a0.length : Nat) : Int) < (((a0.map iC).length : Nat) : Int)) = false := by rw [decide_eq_false_iff_not]; (try simp only [se_len, se_ch, List.length_map]); omega
    refine LoopW.round TT_ok [0, 1, 4, 5, 7, 8, 9, 16] ?_
    conv => whnf
    repeat' first | with_reducible rfl | with_reducible exact True.intro | with_reducible assumption | refine parkI ?_ | (refine And.intro ?_ ?_ <;> conv => whnf) | fail
    refine parkE (fun hc => ?_) (fun hc => ?_)
    · exact (Bool.false_ne_true (hd.symm.trans hc)).elim
    · clear hd
      conv => whnf
      have e := Option.some.inj r8
      subst e
      repeat' first | with_reducible rfl | with_reducible exact True.intro | with_reducible assumption | exact clA _ | (refine And.intro ?_ ?_ <;> conv => whnf) | exact clG _ | (refine gand ?_ h; assumption) | exact clN _ | fail
  · unfold slices_IndexFunc_order_c0 at b8
    have hd : decide (((k8 : Nat) : Int) < (((a0.map iC).length : Nat) : Int)) = true := by rw [decide_eq_true_eq]; (try simp only [se_len, se_ch, List.length_map] at hk8); (try simp only [se_len, se_ch, List.length_map]); omega
    refine LoopW.round TT_ok [0, 1, 4, 5, 7, 8, 9, 16] ?_
    conv => whnf
    repeat' first | with_reducible rfl | with_reducible exact True.intro | with_reducible assumption | refine parkI ?_ | (refine And.intro ?_ ?_ <;> conv => whnf) | fail
    refine parkE (fun hc => ?_) (fun hc => ?_)
    · clear hd
      conv => whnf
      replace b8 := bindS b8
      obtain ⟨y53, hy53, b8⟩ := b8
      have c54 := hq1 x8 _ hy53
      repeat' first | with_reducible rfl | with_reducible exact True.intro | with_reducible assumption | refine parkI ?_ | (refine ⟨_, (kixF (f := iC) hx8), ?_⟩; conv => whnf) | (refine CallP.use c54 ?_; conv => whnf) | (refine frzB_call rfl (slN_nil hn1) ?_; conv => whnf) | (refine And.intro ?_ ?_ <;> conv => whnf) | fail
      refine parkE (fun hc => ?_) (fun hc => ?_)
      · replace b8 := condT hc b8
        conv => whnf
        have e := Option.some.inj b8
        replace e := hret8 _ e.symm
        rw [e] at r8
        replace e := Option.some.inj r8
        subst e
        repeat' first | with_reducible rfl | with_reducible exact True.intro | with_reducible assumption | exact clA _ | (refine And.intro ?_ ?_ <;> conv => whnf) | exact clG _ | (refine gand ?_ h; assumption) | exact clN _ | fail
      · replace b8 := condF hc b8
        conv => whnf
        repeat' first | with_reducible rfl | with_reducible exact True.intro | with_reducible assumption | refine parkI ?_ | (refine And.intro ?_ ?_ <;> conv => whnf) | fail
        have e := Option.some.inj b8
        refine LoopW.norm [(0, (LV.ro 1 (a0.map iC))), (1, (LV.func (.func fn1) ff1 fc1)), (7, (I (((a0.map iC).length : Nat) : Int))), (8, (I ((k8 + 1 : Nat) : Int)))] 0 [] ⟨rfl, rfl, rfl, (congrArg (LV.int .i64) (w64_nat _ (by omega))), trivial⟩ trivial blT rfl (K8 _ e.symm)
    · exact (Bool.false_ne_true (hc.symm.trans hd)).elim

def slices_DeleteFunc_order_c0 (q1 : (Int → Option Bool)) (s9 : (Int × Int × (List Int))) : Option (Step (List Int) (Int × Int × (List Int))) :=
  (bif (decide (s9.2.1 < ((s9.2.2.length : Nat) : Int))) then
    grd ((0 : Int) ≤ s9.2.1 ∧ s9.2.1 < ((s9.2.2.length : Nat) : Int)) <|
    (gixN s9.2.2 (s9.2.1 : Int).toNat).bind fun v59 =>
    (q1 v59).bind fun y61 =>
    (bif (!y61) then
      grd ((0 : Int) ≤ s9.1 ∧ s9.1 < ((s9.2.2.length : Nat) : Int)) <|
      (gixN s9.2.2 (s9.1 : Int).toNat).bind fun v64 =>
      some (.nxt ((IntKind.i64.wrap (s9.1 + 1)), (IntKind.i64.wrap (s9.2.1 + 1)), (s9.2.2.set (s9.1 : Int).toNat v59)))
    else
      some (.nxt (s9.1, (IntKind.i64.wrap (s9.2.1 + 1)), s9.2.2)))
  else
    some (.brk (s9.1, s9.2.1, s9.2.2)))

def slices_DeleteFunc_order (a0 : (List Int)) (q1 : (Int → Option Bool)) : Option (List Int) :=
  (slices_IndexFunc_order a0 q1).bind fun y56 =>
  (bif (decide (y56 = (-1))) then
    some a0
  else
    aft (loopF 1000000 (slices_DeleteFunc_order_c0 q1) (y56, (IntKind.i64.wrap (y56 + 1)), a0)) fun s9 =>
    grd ((0 : Int) ≤ s9.1 ∧ s9.1 < ((s9.2.2.length : Nat) : Int)) <|
    grd ((0 : Int) ≤ s9.1 ∧ s9.1 ≤ ((s9.2.2.length : Nat) : Int)) <|
    some (s9.2.2.take (s9.1 : Int).toNat))

theorem w_slices_DeleteFunc_order (a0 : (List Int)) (fn1 : Nat) (ff1 fc1 : List LV) (q1 : (Int → Option Bool)) (hq1 : ∀ (x0 : Int) (r : Bool), q1 x0 = some r → CallP Try.prog fn1 (ff1 ++ [(I x0)] ++ fc1) (LV.bool r)) (hn1 : NLs ff1 ∧ NLs fc1) (r : (List Int)) (h : slices_DeleteFunc_order a0 q1 = some r) : CallW Try.prog 152 [(LV.sl 0 0 (a0.map iC).length), (LV.func (.func fn1) ff1 fc1)] ⟨1, [(0, (.row 3 1 (a0.map iC)))]⟩ (fun lv H' => lv = (LV.sl 0 0 (r.map iC).length) ∧ H' = ⟨1, [(0, (.row 3 1 (r.map iC)))]⟩) := by
  have hnA1 := hn1.1
  have hnB1 := hn1.2
  unfold slices_DeleteFunc_order at h
  refine CallW.shrink (CallW.intro TT_ok Try.func152 rfl rfl [0, 1, 4, 5, 6, 7, 12, 19, 29, 1000163] rfl ?_)
  conv => whnf
  have n55 : slNs [(LV.ro 1 (a0.map iC)), (LV.func (.func fn1) ff1 fc1)] = [] := slNs_nil nlA
  replace h := bindS h
  obtain ⟨y56, hy56, h⟩ := h
  have c57 := c_slices_IndexFunc_order a0 fn1 ff1 fc1 q1 hq1 hn1 _ hy56
  repeat' first | with_reducible rfl | with_reducible exact True.intro | with_reducible assumption | refine parkI ?_ | (refine frzB_call n55 rfl ?_; conv => whnf) | (refine frz_nil n55 ?_; conv => whnf) | (refine CallW.done (CallP.lendG c57 nlB (show Lents _ [(LV.sl 0 0 (a0.map iC).length), (LV.func (.func fn1) ff1 fc1)] [(LV.ro 1 (a0.map iC)), (LV.func (.func fn1) ff1 fc1)] from ⟨Lent.sl rfl lnT, .of nlA, True.intro⟩)) ?_; conv => whnf) | (refine And.intro ?_ ?_ <;> conv => whnf) | fail
  refine parkE (fun hc => ?_) (fun hc => ?_)
  · replace h := condT hc h
    conv => whnf
    have e := Option.some.inj h
    subst e
    repeat' first | with_reducible rfl | with_reducible exact True.intro | with_reducible assumption | exact ⟨[(0, (.row 3 1 (a0.map iC)))], ⟨⟨rfl, rfl, NLss_bel (NLss_map' _)⟩, trivial⟩, blT, rfl, rfl⟩ | exact clA _ | (refine And.intro ?_ ?_ <;> conv => whnf) | exact clG _ | (refine gand ?_ h; assumption) | exact clN _ | fail
  · replace h := condF hc h
    conv => whnf
    repeat' first | with_reducible rfl | with_reducible exact True.intro | with_reducible assumption | refine parkI ?_ | (refine And.intro ?_ ?_ <;> conv => whnf) | fail
    replace h := aftS h
    obtain ⟨O9, hO9, r9⟩ := h
    refine LoopW.norm [(0, (LV.sl 0 0 ((y56, (IntKind.i64.wrap (y56 + 1)), a0).2.2.map iC).length)), (1, (LV.func (.func fn1) ff1 fc1)), (5, (I (y56, (IntKind.i64.wrap (y56 + 1)), a0).1)), (6, (I (y56, (IntKind.i64.wrap (y56 + 1)), a0).2.1))] 1 [(0, (.row 3 1 ((y56, (IntKind.i64.wrap (y56 + 1)), a0).2.2.map iC)))] ⟨(by exact congrArg (LV.sl 0 0) (clL _ : (a0.map iC).length = ((y56, (IntKind.i64.wrap (y56 + 1)), a0).2.2.map iC).length)), rfl, (smT : ((I y56) : LV) = (I (y56, (IntKind.i64.wrap (y56 + 1)), a0).1)), (smT : ((I (IntKind.i64.wrap (y56 + 1))) : LV) = (I (y56, (IntKind.i64.wrap (y56 + 1)), a0).2.1)), trivial⟩ ⟨⟨(congrArg (fun q => some (Blk.row 3 1 q)) (smT : ((a0.map iC) : List (List LV)) = ((y56, (IntKind.i64.wrap (y56 + 1)), a0).2.2.map iC))), rfl, NLss_bel (NLss_map' _)⟩, trivial⟩ blT rfl ?_
    refine LoopW.forF (fun s9 => [(0, (LV.sl 0 0 (s9.2.2.map iC).length)), (1, (LV.func (.func fn1) ff1 fc1)), (5, (I s9.1)), (6, (I s9.2.1))]) (fun s9 => ⟨1, [(0, (.row 3 1 (s9.2.2.map iC)))]⟩) hO9 (fun s9 o9 b9 K9 hret9 hbrk9 => ?_)
    unfold slices_DeleteFunc_order_c0 at b9
    refine LoopW.round TT_ok [0, 1, 4, 5, 6, 7, 12, 19, 29, 1000163] ?_
    conv => whnf
    repeat' first | with_reducible rfl | with_reducible exact True.intro | with_reducible assumption | refine parkI ?_ | (refine And.intro ?_ ?_ <;> conv => whnf) | fail
    refine parkE (fun hc => ?_) (fun hc => ?_)
    · replace b9 := condT (by first | exact hc | simpa only [se_len, se_ch, List.length_map] using hc) b9
      conv => whnf
      replace b9 := grdS b9
      obtain ⟨g58, b9⟩ := b9
      replace g58 : (0 : Int) ≤ s9.2.1 ∧ s9.2.1 < (((s9.2.2.map iC).length : Nat) : Int) := by simpa only [se_len, se_ch, List.length_map] using g58
      replace b9 := bindS b9
      obtain ⟨v59, hv59, b9⟩ := b9
      have i60 : nth (s9.2.2.map iC) (0 + ((s9.2.1 : Int).toNat)) = some [(I v59)] := by simpa only [se_map, se_len, se_ch, List.length_map, nth_eq, Nat.zero_add, List.getElem?_map] using gixNF (f := iC) hv59
      replace b9 := bindS b9
      obtain ⟨y61, hy61, b9⟩ := b9
      have c62 := hq1 v59 _ hy61
      repeat' first | with_reducible rfl | with_reducible exact True.intro | with_reducible assumption | refine parkI ?_ | exact g58 | (refine CallP.use c62 ?_; conv => whnf) | (rw [i60]; conv => whnf) | (refine frzB_call rfl (slN_nil hn1) ?_; conv => whnf) | (refine And.intro ?_ ?_ <;> conv => whnf) | fail
      refine parkE (fun hc => ?_) (fun hc => ?_)
      · replace b9 := condT hc b9
        conv => whnf
        replace b9 := grdS b9
        obtain ⟨g63, b9⟩ := b9
        replace g63 : (0 : Int) ≤ s9.1 ∧ s9.1 < (((s9.2.2.map iC).length : Nat) : Int) := by simpa only [se_len, se_ch, List.length_map] using g63
        replace b9 := bindS b9
        obtain ⟨v64, hv64, b9⟩ := b9
        have i65 : nth (s9.2.2.map iC) (0 + ((s9.1 : Int).toNat)) = some [(I v64)] := by simpa only [se_map, se_len, se_ch, List.length_map, nth_eq, Nat.zero_add, List.getElem?_map] using gixNF (f := iC) hv64
        repeat' first | with_reducible rfl | with_reducible exact True.intro | with_reducible assumption | refine parkI ?_ | exact g63 | (rw [i65]; conv => whnf) | (refine And.intro ?_ ?_ <;> conv => whnf) | fail
        have e := Option.some.inj b9
        refine LoopW.norm [(0, (LV.sl 0 0 (((IntKind.i64.wrap (s9.1 + 1)), (IntKind.i64.wrap (s9.2.1 + 1)), (s9.2.2.set (s9.1 : Int).toNat v59)).2.2.map iC).length)), (1, (LV.func (.func fn1) ff1 fc1)), (5, (I ((IntKind.i64.wrap (s9.1 + 1)), (IntKind.i64.wrap (s9.2.1 + 1)), (s9.2.2.set (s9.1 : Int).toNat v59)).1)), (6, (I ((IntKind.i64.wrap (s9.1 + 1)), (IntKind.i64.wrap (s9.2.1 + 1)), (s9.2.2.set (s9.1 : Int).toNat v59)).2.1))] 1 [(0, (.row 3 1 (((IntKind.i64.wrap (s9.1 + 1)), (IntKind.i64.wrap (s9.2.1 + 1)), (s9.2.2.set (s9.1 : Int).toNat v59)).2.2.map iC)))] ⟨(by exact congrArg (LV.sl 0 0) (clL _ : (s9.2.2.map iC).length = (((IntKind.i64.wrap (s9.1 + 1)), (IntKind.i64.wrap (s9.2.1 + 1)), (s9.2.2.set (s9.1 : Int).toNat v59)).2.2.map iC).length)), rfl, (smT : ((I (IntKind.i64.wrap (s9.1 + 1))) : LV) = (I ((IntKind.i64.wrap (s9.1 + 1)), (IntKind.i64.wrap (s9.2.1 + 1)), (s9.2.2.set (s9.1 : Int).toNat v59)).1)), (smT : ((I (IntKind.i64.wrap (s9.2.1 + 1))) : LV) = (I ((IntKind.i64.wrap (s9.1 + 1)), (IntKind.i64.wrap (s9.2.1 + 1)), (s9.2.2.set (s9.1 : Int).toNat v59)).2.1)), trivial⟩ ⟨⟨(congrArg (fun q => some (Blk.row 3 1 q)) (smT : ((setN (s9.2.2.map iC) (0 + ((s9.1 : Int).toNat)) [(I v59)]) : List (List LV)) = (((IntKind.i64.wrap (s9.1 + 1)), (IntKind.i64.wrap (s9.2.1 + 1)), (s9.2.2.set (s9.1 : Int).toNat v59)).2.2.map iC))), rfl, NLss_bel (NLss_map' _)⟩, trivial⟩ blT rfl (K9 _ e.symm)
      · replace b9 := condF hc b9
        conv => whnf
        repeat' first | with_reducible rfl | with_reducible exact True.intro | with_reducible assumption | refine parkI ?_ | (refine And.intro ?_ ?_ <;> conv => whnf) | fail
        have e := Option.some.inj b9
        refine LoopW.norm [(0, (LV.sl 0 0 ((s9.1, (IntKind.i64.wrap (s9.2.1 + 1)), s9.2.2).2.2.map iC).length)), (1, (LV.func (.func fn1) ff1 fc1)), (5, (I (s9.1, (IntKind.i64.wrap (s9.2.1 + 1)), s9.2.2).1)), (6, (I (s9.1, (IntKind.i64.wrap (s9.2.1 + 1)), s9.2.2).2.1))] 1 [(0, (.row 3 1 ((s9.1, (IntKind.i64.wrap (s9.2.1 + 1)), s9.2.2).2.2.map iC)))] ⟨(by exact congrArg (LV.sl 0 0) (clL _ : (s9.2.2.map iC).length = ((s9.1, (IntKind.i64.wrap (s9.2.1 + 1)), s9.2.2).2.2.map iC).length)), rfl, (smT : ((I s9.1) : LV) = (I (s9.1, (IntKind.i64.wrap (s9.2.1 + 1)), s9.2.2).1)), (smT : ((I (IntKind.i64.wrap (s9.2.1 + 1))) : LV) = (I (s9.1, (IntKind.i64.wrap (s9.2.1 + 1)), s9.2.2).2.1)), trivial⟩ ⟨⟨(congrArg (fun q => some (Blk.row 3 1 q)) (smT : ((s9.2.2.map iC) : List (List LV)) = ((s9.1, (IntKind.i64.wrap (s9.2.1 + 1)), s9.2.2).2.2.map iC))), rfl, NLss_bel (NLss_map' _)⟩, trivial⟩ blT rfl (K9 _ e.symm)
    · replace b9 := condF (by first | exact hc | simpa only [se_len, se_ch, List.length_map] using hc) b9
      conv => whnf
      have e := Option.some.inj b9
      replace e := hbrk9 _ e.symm
      rw [e] at r9
      dsimp only [aftM] at r9
      replace r9 := grdS r9
      obtain ⟨g66, r9⟩ := r9
      replace g66 : (0 : Int) ≤ s9.1 ∧ s9.1 < (((s9.2.2.map iC).length : Nat) : Int) := by simpa only [se_len, se_ch, List.length_map] using g66
      have l67 : (0 + (s9.1 : Int).toNat) + ((s9.2.2.map iC).length - (s9.1 : Int).toNat) = (s9.2.2.map iC).length := by (try simp only [se_len, se_ch, List.length_map]); (try simp only [se_len, se_ch, List.length_map] at *); omega
      replace r9 := grdS r9
      obtain ⟨g68, r9⟩ := r9
      replace g68 : (0 : Int) ≤ s9.1 ∧ s9.1 ≤ (((s9.2.2.map iC).length : Nat) : Int) := by simpa only [se_len, se_ch, List.length_map] using g68
      have e := Option.some.inj r9
      subst e
      repeat' first | with_reducible rfl | with_reducible exact True.intro | with_reducible assumption | exact ⟨[(0, (.row 3 1 ((s9.2.2.take (s9.1 : Int).toNat).map iC)))], ⟨⟨(congrArg (fun q => some (Blk.row 3 1 q)) (by first | (simp only [se_map, se_byL, se_len, se_ch, List.length_map]; done) | (simp only [se_map, se_byL, se_len, se_ch, List.length_map, Nat.zero_add]; done) : (((s9.2.2.map iC).take (0 + (s9.1 : Int).toNat)) : List (List LV)) = ((s9.2.2.take (s9.1 : Int).toNat).map iC))), rfl, NLss_bel (NLss_map' _)⟩, trivial⟩, blT, (congrArg (LV.sl 0 0) (by (try simp only [se_map, se_byL, se_len, se_ch, List.length_map]); first | done | rfl | omega | (simp only [se_len, se_ch, List.length_map] at *; omega) : (s9.1 : Int).toNat = ((s9.2.2.take (s9.1 : Int).toNat).map iC).length)), rfl⟩ | exact g66 | exact g68 | exact l67 | exact clA _ | (refine And.intro ?_ ?_ <;> conv => whnf) | exact clG _ | (refine gand ?_ h; assumption) | exact clN _ | fail

def _lru_order_without_1 (a0 : Int) (q1 : Int) : Option Bool :=
  some (decide (a0 = q1))

theorem c__lru_order_without_1 (a0 : Int) (q1 : Int) (r : Bool) (h : _lru_order_without_1 a0 q1 = some r) : CallP Try.prog 154 [(I a0), (LV.rptr [(I q1)])] (LV.bool r) := by
  unfold _lru_order_without_1 at h
  refine .intro nlA (.intro TT_ok Try.func154 rfl rfl [0, 1, 3] rfl ?_)
  conv => whnf
  have e := Option.some.inj h
  subst e
  repeat' first | with_reducible rfl | with_reducible exact True.intro | with_reducible assumption | exact clA _ | (refine And.intro ?_ ?_ <;> conv => whnf) | exact clG _ | (refine gand ?_ h; assumption) | exact clN _ | fail

def _lru_order_without (a0 : (List Int)) (a1 : Int) : Option (List Int) :=
  (slices_Clone_order a0).bind fun y51 =>
  (slices_DeleteFunc_order y51 (fun x0_ => _lru_order_without_1 x0_ a1)).bind fun y53 =>
  some y53

theorem cf__lru_order_without (a0 : (List Int)) (a1 : Int) (r : (List Int)) (h : _lru_order_without a0 a1 = some r) : CallF Try.prog 132 [(LV.ro 1 (a0.map iC)), (I a1)] 3 1 (r.map iC) := by
  unfold _lru_order_without at h
  refine CallF.of (NLss_map' _) (CallW.intro TT_ok Try.func132 rfl rfl [0, 1, 3, 4, 1000152, 2000152] rfl ?_)
  conv => whnf
  replace h := bindS h
  obtain ⟨y51, hy51, h⟩ := h
  have c52 := cf_slices_Clone_order a0 _ hy51
  replace h := bindS h
  obtain ⟨y53, hy53, h⟩ := h
  have c54 := w_slices_DeleteFunc_order y51 154 [] [(LV.rptr [(I a1)])] (fun x0_ => _lru_order_without_1 x0_ a1) (fun x0_ r h => c__lru_order_without_1 x0_ a1 r h) nlB _ hy53
  have e := Option.some.inj h
  subst e
  repeat' first | with_reducible rfl | with_reducible exact True.intro | with_reducible assumption | (refine CallW.done (CallF.at c52 nlA (NLss_map' _)) ?_; conv => whnf) | (refine ⟨_, _, CallF.at c52 nlA (NLss_map' _), ?_⟩; conv => whnf) | (refine CallW.frame (nx2 := 2) (l2 := [(1, (.row 3 1 (y53.map iC)))]) [(1, 0)] [(0, 1)] c54 rfl rfl ⟨⟨rfl, rfl, .inl ⟨rfl, nlT⟩⟩, rfl, rfl, trivial⟩ rfl rfl ⟨⟨rfl, rfl, .inl ⟨rfl, nlT⟩⟩, rfl, rfl, trivial⟩ ?_; conv => whnf) | exact Or.inr ⟨_, rfl, congrArg (fun q => some (Blk.row 3 1 q)) rfl⟩ | exact clA _ | (refine And.intro ?_ ?_ <;> conv => whnf) | exact clG _ | (refine gand ?_ h; assumption) | exact clN _ | fail

theorem c__lru_order_without (a0 : (List Int)) (a1 : Int) (r : (List Int)) (h : _lru_order_without a0 a1 = some r) : CallP Try.prog 132 [(LV.ro 1 (a0.map iC)), (I a1)] (LV.ro 1 (r.map iC)) := by
  exact CallF.toP (cf__lru_order_without a0 a1 r h) nlA (NLss_map' _)

def _lru_order_use (a0 : (List Int)) (a1 : Int) : Option (List Int) :=
  (_lru_order_without a0 a1).bind fun y51 =>
  grd (fits ((([a1] : (List Int)) ++ y51) : List Int).length 8) <|
  some (([a1] : (List Int)) ++ y51)

theorem cf__lru_order_use (a0 : (List Int)) (a1 : Int) (r : (List Int)) (h : _lru_order_use a0 a1 = some r) : CallF Try.prog 131 [(LV.ro 1 (a0.map iC)), (I a1)] 3 1 (r.map iC) := by
  unfold _lru_order_use at h
  refine CallF.of (NLss_map' _) (CallW.intro TT_ok Try.func131 rfl rfl [0, 1, 4] rfl ?_)
  conv => whnf
  replace h := bindS h
  obtain ⟨y51, hy51, h⟩ := h
  have c52 := cf__lru_order_without a0 a1 _ hy51
  replace h := grdS h
  obtain ⟨g53, h⟩ := h
  replace g53 : fits (([[(I a1)]] ++ (y51.map iC))).length 8 := by simpa only [se_len, se_ch, List.length_map] using g53
  have e := Option.some.inj h
  subst e
  repeat' first | with_reducible rfl | with_reducible exact True.intro | with_reducible assumption | exact g53 | (refine CallW.done (CallF.at c52 nlA (NLss_map' _)) ?_; conv => whnf) | (refine ⟨_, _, CallF.at c52 nlA (NLss_map' _), ?_⟩; conv => whnf) | exact Or.inr ⟨_, rfl, congrArg (fun q => some (Blk.row 3 1 q)) (smT : (([[(I a1)]] ++ (y51.map iC)) : List (List LV)) = ((([a1] : (List Int)) ++ y51).map iC))⟩ | exact clA _ | (refine And.intro ?_ ?_ <;> conv => whnf) | exact clG _ | (refine gand ?_ h; assumption) | exact clN _ | fail

theorem c__lru_order_use (a0 : (List Int)) (a1 : Int) (r : (List Int)) (h : _lru_order_use a0 a1 = some r) : CallP Try.prog 131 [(LV.ro 1 (a0.map iC)), (I a1)] (LV.ro 1 (r.map iC)) := by
  exact CallF.toP (cf__lru_order_use a0 a1 r h) nlA (NLss_map' _)

def lru_Use (a0 : (List Int)) (a1 : Int) : Option ((List Int) × Int) :=
  (lru_Right a0).bind fun y49 =>
  (bif (bif (!y49) then true else (decide (a1 < 0))) then
    some ([], 1)
  else
    (_lru_order_use a0 a1).bind fun y54 =>
    (bif (decide (64 < ((y54.length : Nat) : Int))) then
      some ([], 5)
    else
      some (y54, 0)))

theorem c_lru_Use (a0 : (List Int)) (a1 : Int) (r : ((List Int) × Int)) (h : lru_Use a0 a1 = some r) : CallP Try.prog 109 [(LV.ro 1 (a0.map iC)), (I a1)] (LV.tup [(LV.ro 1 (r.1.map iC)), (I r.2)]) := by
  unfold lru_Use at h
  refine .intro nlA (.intro TT_ok Try.func109 rfl rfl [0, 1, 4, 5, 6, 13, 19] rfl ?_)
  conv => whnf
  replace h := bindS h
  obtain ⟨y49, hy49, h⟩ := h
  have c50 := c_lru_Right a0 _ hy49
  repeat' first | with_reducible rfl | with_reducible exact True.intro | with_reducible assumption | refine parkI ?_ | (refine CallP.use c50 ?_; conv => whnf) | exact clA _ | (refine And.intro ?_ ?_ <;> conv => whnf) | exact clG _ | (refine gand ?_ h; assumption) | fail
  refine parkE (fun hc => ?_) (fun hc => ?_)
  · replace h := condT hc h
    conv => whnf
    have e := Option.some.inj h
    subst e
    repeat' first | with_reducible rfl | with_reducible exact True.intro | with_reducible assumption | exact clA _ | (refine And.intro ?_ ?_ <;> conv => whnf) | exact clG _ | (refine gand ?_ h; assumption) | exact clN _ | fail
  · replace h := condF hc h
    conv => whnf
    replace h := bindS h
    obtain ⟨y54, hy54, h⟩ := h
    have c55 := cf__lru_order_use a0 a1 _ hy54
    repeat' first | with_reducible rfl | with_reducible exact True.intro | with_reducible assumption | refine parkI ?_ | (refine CallW.done (CallF.at c55 nlA (NLss_map' _)) ?_; conv => whnf) | (refine ⟨_, _, CallF.at c55 nlA (NLss_map' _), ?_⟩; conv => whnf) | (refine And.intro ?_ ?_ <;> conv => whnf) | fail
    refine parkE (fun hc => ?_) (fun hc => ?_)
    · replace h := condT (by first | exact hc | simpa only [se_len, se_ch, List.length_map] using hc) h
      conv => whnf
      have e := Option.some.inj h
      subst e
      repeat' first | with_reducible rfl | with_reducible exact True.intro | with_reducible assumption | exact clA _ | (refine And.intro ?_ ?_ <;> conv => whnf) | exact clG _ | (refine gand ?_ h; assumption) | exact clN _ | fail
    · replace h := condF (by first | exact hc | simpa only [se_len, se_ch, List.length_map] using hc) h
      conv => whnf
      have e := Option.some.inj h
      subst e
      repeat' first | with_reducible rfl | with_reducible exact True.intro | with_reducible assumption | exact clA _ | (refine And.intro ?_ ?_ <;> conv => whnf) | exact clG _ | (refine gand ?_ h; assumption) | exact clN _ | fail

def slices_Clone_int (a0 : (List Int)) : Option (List Int) :=
  grd (fits a0.length 8) <|
  some a0

theorem cf_slices_Clone_int (a0 : (List Int)) (r : (List Int)) (h : slices_Clone_int a0 = some r) : CallF Try.prog 110 [(LV.ro 1 (a0.map iC))] 3 1 (r.map iC) := by
  unfold slices_Clone_int at h
  replace h := grdS h
  obtain ⟨g, h⟩ := h
  obtain rfl := Option.some.inj h
  have f1 : fits (([] : List (List LV)) ++ a0.map iC).length 8 := by rw [List.nil_append, List.length_map]; exact g
  refine CallF.of (NLss_map' _) (CallW.intro TT_ok Try.func110 rfl rfl [0, 2, 4] rfl ?_)
  conv => whnf
  repeat' first | with_reducible rfl | with_reducible exact True.intro | refine parkI ?_ | exact f1 | exact Or.inl ⟨rfl, by assumption⟩ | exact Or.inr ⟨_, rfl, rfl⟩ | exact (rfl : (_ : Nat) = _) | (refine And.intro ?_ ?_ <;> conv => whnf) | (intro h; conv => whnf) | (refine parkE (fun hc => ?_) (fun hc => ?_) <;> first | exact (Bool.false_ne_true hc).elim | exact (Bool.false_ne_true hc.symm).elim | conv => whnf) | fail

theorem c_slices_Clone_int (a0 : (List Int)) (r : (List Int)) (h : slices_Clone_int a0 = some r) : CallP Try.prog 110 [(LV.ro 1 (a0.map iC))] (LV.ro 1 (r.map iC)) :=
  CallF.toP (cf_slices_Clone_int a0 r h) ⟨trivial, trivial⟩ (NLss_map' _)

def lru_Drop (a0 : (List Int)) (a1 : Int) : Option ((List Int) × Int) :=
  (lru_Right a0).bind fun y71 =>
  (bif (bif (!y71) then true else (decide (a1 < 0))) then
    some ([], 1)
  else
    (_lru_order_without a0 a1).bind fun y73 =>
    (bif (decide (((y73.length : Nat) : Int) = ((a0.length : Nat) : Int))) then
      some ([], 4)
    else
      some (y73, 0)))

theorem c_lru_Drop (a0 : (List Int)) (a1 : Int) (r : ((List Int) × Int)) (h : lru_Drop a0 a1 = some r) : CallP Try.prog 111 [(LV.ro 1 (a0.map iC)), (I a1)] (LV.tup [(LV.ro 1 (r.1.map iC)), (I r.2)]) := by
  unfold lru_Drop at h
  refine .intro nlA (.intro TT_ok Try.func111 rfl rfl [0, 1, 4, 5, 6, 13, 21] rfl ?_)
  conv => whnf
  replace h := bindS h
  obtain ⟨y71, hy71, h⟩ := h
  have c72 := c_lru_Right a0 _ hy71
  repeat' first | with_reducible rfl | with_reducible exact True.intro | with_reducible assumption | refine parkI ?_ | (refine CallP.use c72 ?_; conv => whnf) | exact clA _ | (refine And.intro ?_ ?_ <;> conv => whnf) | exact clG _ | (refine gand ?_ h; assumption) | fail
  refine parkE (fun hc => ?_) (fun hc => ?_)
  · replace h := condT hc h
    conv => whnf
    have e := Option.some.inj h
    subst e
    repeat' first | with_reducible rfl | with_reducible exact True.intro | with_reducible assumption | exact clA _ | (refine And.intro ?_ ?_ <;> conv => whnf) | exact clG _ | (refine gand ?_ h; assumption) | exact clN _ | fail
  · replace h := condF hc h
    conv => whnf
    replace h := bindS h
    obtain ⟨y73, hy73, h⟩ := h
    have c74 := cf__lru_order_without a0 a1 _ hy73
    repeat' first | with_reducible rfl | with_reducible exact True.intro | with_reducible assumption | refine parkI ?_ | (refine CallW.done (CallF.at c74 nlA (NLss_map' _)) ?_; conv => whnf) | (refine ⟨_, _, CallF.at c74 nlA (NLss_map' _), ?_⟩; conv => whnf) | (refine And.intro ?_ ?_ <;> conv => whnf) | fail
    refine parkE (fun hc => ?_) (fun hc => ?_)
    · replace h := condT (by first | exact hc | simpa only [se_len, se_ch, List.length_map] using hc) h
      conv => whnf
      have e := Option.some.inj h
      subst e
      repeat' first | with_reducible rfl | with_reducible exact True.intro | with_reducible assumption | exact clA _ | (refine And.intro ?_ ?_ <;> conv => whnf) | exact clG _ | (refine gand ?_ h; assumption) | exact clN _ | fail
    · replace h := condF (by first | exact hc | simpa only [se_len, se_ch, List.length_map] using hc) h
      conv => whnf
      have e := Option.some.inj h
      subst e
      repeat' first | with_reducible rfl | with_reducible exact True.intro | with_reducible assumption | exact clA _ | (refine And.intro ?_ ?_ <;> conv => whnf) | exact clG _ | (refine gand ?_ h; assumption) | exact clN _ | fail

def fdb_own_x (a0 : TableT) : Option TableT :=
  grd ((0 : Int) ≤ ((a0.Buckets.length : Nat) : Int) ∧ ((a0.Buckets.length : Nat) : Int) ≤ ((a0.Buckets.length : Nat) : Int) ∧ fits (((a0.Buckets.length : Nat) : Int)).toNat 24) <|
  some (⟨(a0.Buckets.take (List.replicate (((a0.Buckets.length : Nat) : Int)).toNat ([] : (List EntryT))).length ++ (List.replicate (((a0.Buckets.length : Nat) : Int)).toNat ([] : (List EntryT))).drop a0.Buckets.length), a0.Slots, a0.Age⟩ : TableT)

theorem w_fdb_own_x (a0 : TableT) (r : TableT) (h : fdb_own_x a0 = some r) : CallW Try.prog 105 [(LV.agg [(LV.ro 1 (a0.Buckets.map (roC 4 EntryT.cells))), (I a0.Slots), (I a0.Age)])] ⟨0, []⟩ (fun lv H' => lv = (LV.agg [(LV.sl 0 0 (r.Buckets.map (roC 4 EntryT.cells)).length), (I r.Slots), (I r.Age)]) ∧ H' = ⟨1, [(0, (.row 111 1 (r.Buckets.map (roC 4 EntryT.cells))))]⟩) := by
  unfold fdb_own_x at h
  refine CallW.shrinkR (CallW.intro TT_ok Try.func105 rfl rfl [0, 1, 2, 3, 5000007] rfl ?_)
  conv => whnf
  replace h := grdS h
  obtain ⟨g81, h⟩ := h
  replace g81 : (0 : Int) ≤ (((a0.Buckets.map (roC 4 EntryT.cells)).length : Nat) : Int) ∧ (((a0.Buckets.map (roC 4 EntryT.cells)).length : Nat) : Int) ≤ (((a0.Buckets.map (roC 4 EntryT.cells)).length : Nat) : Int) ∧ fits ((((a0.Buckets.map (roC 4 EntryT.cells)).length : Nat) : Int)).toNat 24 := by simpa only [se_len, se_ch, List.length_map] using g81
  have e := Option.some.inj h
  subst e
  repeat' first | with_reducible rfl | with_reducible exact True.intro | with_reducible assumption | exact ⟨[(2, 0)], 1, [(0, (.row 111 1 ((⟨(a0.Buckets.take (List.replicate (((a0.Buckets.length : Nat) : Int)).toNat ([] : (List EntryT))).length ++ (List.replicate (((a0.Buckets.length : Nat) : Int)).toNat ([] : (List EntryT))).drop a0.Buckets.length), a0.Slots, a0.Age⟩ : TableT).Buckets.map (roC 4 EntryT.cells))))], rfl, ⟨⟨rfl, rfl, .inl ⟨(by first | (simp only [se_map, se_byL, se_len, se_ch, List.length_map]; done) | (simp only [se_map, se_byL, se_len, se_ch, List.length_map, TableT.cells]; done) | (simp only [se_map, se_byL, se_len, se_ch, List.length_map, roC]; done) : (((a0.Buckets.map (roC 4 EntryT.cells)).take (List.replicate ((((a0.Buckets.map (roC 4 EntryT.cells)).length : Nat) : Int)).toNat [(LV.ro 4 [])]).length ++ (List.replicate ((((a0.Buckets.map (roC 4 EntryT.cells)).length : Nat) : Int)).toNat [(LV.ro 4 [])]).drop (a0.Buckets.map (roC 4 EntryT.cells)).length) : List (List LV)) = ((⟨(a0.Buckets.take (List.replicate (((a0.Buckets.length : Nat) : Int)).toNat ([] : (List EntryT))).length ++ (List.replicate (((a0.Buckets.length : Nat) : Int)).toNat ([] : (List EntryT))).drop a0.Buckets.length), a0.Slots, a0.Age⟩ : TableT).Buckets.map (roC 4 EntryT.cells))), nlT⟩⟩, rfl, rfl, trivial⟩, rfl, rfl, (by first | exact rfl | (show ((LV.agg [(LV.sl 0 0 ((((a0.Buckets.map (roC 4 EntryT.cells)).length : Nat) : Int)).toNat), (I a0.Slots), (I a0.Age)]) : LV) = (LV.agg [(LV.sl 0 0 ((⟨(a0.Buckets.take (List.replicate (((a0.Buckets.length : Nat) : Int)).toNat ([] : (List EntryT))).length ++ (List.replicate (((a0.Buckets.length : Nat) : Int)).toNat ([] : (List EntryT))).drop a0.Buckets.length), a0.Slots, a0.Age⟩ : TableT).Buckets.map (roC 4 EntryT.cells)).length), (I (⟨(a0.Buckets.take (List.replicate (((a0.Buckets.length : Nat) : Int)).toNat ([] : (List EntryT))).length ++ (List.replicate (((a0.Buckets.length : Nat) : Int)).toNat ([] : (List EntryT))).drop a0.Buckets.length), a0.Slots, a0.Age⟩ : TableT).Slots), (I (⟨(a0.Buckets.take (List.replicate (((a0.Buckets.length : Nat) : Int)).toNat ([] : (List EntryT))).length ++ (List.replicate (((a0.Buckets.length : Nat) : Int)).toNat ([] : (List EntryT))).drop a0.Buckets.length), a0.Slots, a0.Age⟩ : TableT).Age)]); simp only [se_map, se_byL, se_len, se_ch, List.length_map]; done) | (show ((LV.agg [(LV.sl 0 0 ((((a0.Buckets.map (roC 4 EntryT.cells)).length : Nat) : Int)).toNat), (I a0.Slots), (I a0.Age)]) : LV) = (LV.agg [(LV.sl 0 0 ((⟨(a0.Buckets.take (List.replicate (((a0.Buckets.length : Nat) : Int)).toNat ([] : (List EntryT))).length ++ (List.replicate (((a0.Buckets.length : Nat) : Int)).toNat ([] : (List EntryT))).drop a0.Buckets.length), a0.Slots, a0.Age⟩ : TableT).Buckets.map (roC 4 EntryT.cells)).length), (I (⟨(a0.Buckets.take (List.replicate (((a0.Buckets.length : Nat) : Int)).toNat ([] : (List EntryT))).length ++ (List.replicate (((a0.Buckets.length : Nat) : Int)).toNat ([] : (List EntryT))).drop a0.Buckets.length), a0.Slots, a0.Age⟩ : TableT).Slots), (I (⟨(a0.Buckets.take (List.replicate (((a0.Buckets.length : Nat) : Int)).toNat ([] : (List EntryT))).length ++ (List.replicate (((a0.Buckets.length : Nat) : Int)).toNat ([] : (List EntryT))).drop a0.Buckets.length), a0.Slots, a0.Age⟩ : TableT).Age)]); (try simp only [se_map, se_byL, se_len, se_ch, List.length_map]); first | (congr 1; (try simp only [se_len, se_ch, List.length_map] at *); omega) | (simp only [LV.agg.injEq, LV.tup.injEq, List.cons.injEq, LV.sl.injEq, true_and, and_true]; omega))), rfl⟩ | exact g81 | exact clA _ | (refine And.intro ?_ ?_ <;> conv => whnf) | exact clH _ | (refine gand ?_ h; assumption) | exact clN _ | exact clL _ | fail

def fdb_put_c0  (k6 : Nat) (s6 : (List Int)) : Option (Step (TableT × Bool) (List Int)) :=
  grd (fits ((s6 ++ ([((k6 : Nat) : Int)] : (List Int))) : List Int).length 8) <|
  some (.nxt (s6 ++ ([((k6 : Nat) : Int)] : (List Int))))

def fdb_put_c1 (a1 : EntryT) (y41 : (List EntryT)) (s8 : (List Int)) : Option (Step (TableT × Bool) (List Int)) :=
  grd (((decide (0 < ((s8.length : Nat) : Int))) = true → (0 : Int) ≤ (IntKind.i64.wrap (((s8.length : Nat) : Int) - 1)) ∧ (IntKind.i64.wrap (((s8.length : Nat) : Int) - 1)) < ((s8.length : Nat) : Int))) <|
  (bif (decide (0 < ((s8.length : Nat) : Int))) then
    (gixN s8 ((IntKind.i64.wrap (((s8.length : Nat) : Int) - 1)) : Int).toNat).bind fun v62 =>
    grd (((decide (0 < ((s8.length : Nat) : Int))) = true → (0 : Int) ≤ v62 ∧ v62 < ((((y41 ++ ([a1] : (List EntryT))).set (((y41.length : Nat) : Int) : Int).toNat a1).length : Nat) : Int))) <|
    (gixN ((y41 ++ ([a1] : (List EntryT))).set (((y41.length : Nat) : Int) : Int).toNat a1) (v62 : Int).toNat).bind fun v65 =>
    (bif (bif (decide (0 < ((s8.length : Nat) : Int))) then v65.Static else false) then
      grd ((0 : Int) ≤ (IntKind.i64.wrap (((s8.length : Nat) : Int) - 1)) ∧ (IntKind.i64.wrap (((s8.length : Nat) : Int) - 1)) ≤ ((s8.length : Nat) : Int)) <|
      some (.nxt (s8.take ((IntKind.i64.wrap (((s8.length : Nat) : Int) - 1)) : Int).toNat))
    else
      some (.brk s8))
  else
    some (.brk s8))

def fdb_put_c2 (a1 : EntryT) (y41 : (List EntryT)) (k9 : Nat) (x9 : Int) (s9 : (List EntryT)) : Option (Step (TableT × Bool) (List EntryT)) :=
  grd ((0 : Int) ≤ x9 ∧ x9 < ((((y41 ++ ([a1] : (List EntryT))).set (((y41.length : Nat) : Int) : Int).toNat a1).length : Nat) : Int)) <|
  (gixN ((y41 ++ ([a1] : (List EntryT))).set (((y41.length : Nat) : Int) : Int).toNat a1) (x9 : Int).toNat).bind fun v82 =>
  grd (fits ((s9 ++ ([v82] : (List EntryT))) : List EntryT).length 32) <|
  some (.nxt (s9 ++ ([v82] : (List EntryT))))

def fdb_put_c3 (a1 : EntryT) (y41 : (List EntryT)) (k10 : Nat) (x10 : Int) (s10 : (List EntryT)) : Option (Step (TableT × Bool) (List EntryT)) :=
  grd ((0 : Int) ≤ x10 ∧ x10 < ((((y41 ++ ([a1] : (List EntryT))).set (((y41.length : Nat) : Int) : Int).toNat a1).length : Nat) : Int)) <|
  (gixN ((y41 ++ ([a1] : (List EntryT))).set (((y41.length : Nat) : Int) : Int).toNat a1) (x10 : Int).toNat).bind fun v91 =>
  grd (fits ((s10 ++ ([v91] : (List EntryT))) : List EntryT).length 32) <|
  some (.nxt (s10 ++ ([v91] : (List EntryT))))

def fdb_put_c4 (a1 : EntryT) (y37 : (Int × Int)) (y41 : (List EntryT)) (s13 : (List Int)) : Option (Step (TableT × Bool) (List Int)) :=
  grd (((decide (0 < ((s13.length : Nat) : Int))) = true → (0 : Int) ≤ (IntKind.i64.wrap (((s13.length : Nat) : Int) - 1)) ∧ (IntKind.i64.wrap (((s13.length : Nat) : Int) - 1)) < ((s13.length : Nat) : Int))) <|
  (bif (decide (0 < ((s13.length : Nat) : Int))) then
    (gixN s13 ((IntKind.i64.wrap (((s13.length : Nat) : Int) - 1)) : Int).toNat).bind fun v108 =>
    grd (((decide (0 < ((s13.length : Nat) : Int))) = true → (0 : Int) ≤ v108 ∧ v108 < (((y41.set (y37.2 : Int).toNat a1).length : Nat) : Int))) <|
    (gixN (y41.set (y37.2 : Int).toNat a1) (v108 : Int).toNat).bind fun v111 =>
    (bif (bif (decide (0 < ((s13.length : Nat) : Int))) then v111.Static else false) then
      grd ((0 : Int) ≤ (IntKind.i64.wrap (((s13.length : Nat) : Int) - 1)) ∧ (IntKind.i64.wrap (((s13.length : Nat) : Int) - 1)) ≤ ((s13.length : Nat) : Int)) <|
      some (.nxt (s13.take ((IntKind.i64.wrap (((s13.length : Nat) : Int) - 1)) : Int).toNat))
    else
      some (.brk s13))
  else
    some (.brk s13))

def fdb_put_c5 (a1 : EntryT) (y37 : (Int × Int)) (y41 : (List EntryT)) (k14 : Nat) (x14 : Int) (s14 : (List EntryT)) : Option (Step (TableT × Bool) (List EntryT)) :=
  grd ((0 : Int) ≤ x14 ∧ x14 < (((y41.set (y37.2 : Int).toNat a1).length : Nat) : Int)) <|
  (gixN (y41.set (y37.2 : Int).toNat a1) (x14 : Int).toNat).bind fun v128 =>
  grd (fits ((s14 ++ ([v128] : (List EntryT))) : List EntryT).length 32) <|
  some (.nxt (s14 ++ ([v128] : (List EntryT))))

def fdb_put_c6 (a1 : EntryT) (y37 : (Int × Int)) (y41 : (List EntryT)) (k15 : Nat) (x15 : Int) (s15 : (List EntryT)) : Option (Step (TableT × Bool) (List EntryT)) :=
  grd ((0 : Int) ≤ x15 ∧ x15 < (((y41.set (y37.2 : Int).toNat a1).length : Nat) : Int)) <|
  (gixN (y41.set (y37.2 : Int).toNat a1) (x15 : Int).toNat).bind fun v137 =>
  grd (fits ((s15 ++ ([v137] : (List EntryT))) : List EntryT).length 32) <|
  some (.nxt (s15 ++ ([v137] : (List EntryT))))

def fdb_put (a0 : TableT) (a1 : EntryT) : Option (TableT × Bool) :=
  (fdb_place a0 a1.Mac).bind fun y37 =>
  (gix a0.Buckets y37.1).bind fun v39 =>
  (slices_Clone_Entry v39).bind fun y41 =>
  aft (rangeN (fdb_put_c0 ) ((y41.length : Nat) : Int) ([] : (List Int))) fun s6 =>
  (bif (decide (y37.2 < 0)) then
    grd (fits ((y41 ++ ([a1] : (List EntryT))) : List EntryT).length 32) <|
    grd ((0 : Int) ≤ ((y41.length : Nat) : Int) ∧ ((y41.length : Nat) : Int) < (((y41 ++ ([a1] : (List EntryT))).length : Nat) : Int)) <|
    (gixN (y41 ++ ([a1] : (List EntryT))) (((y41.length : Nat) : Int) : Int).toNat).bind fun v46 =>
    (lru_Use s6 ((y41.length : Nat) : Int)).bind fun y56 =>
    (bif (decide (a0.Slots < ((y56.1.length : Nat) : Int))) then
      grd ((0 : Int) ≤ 1 ∧ 1 ≤ ((y56.1.length : Nat) : Int)) <|
      (slices_Clone_int (y56.1.drop (1 : Int).toNat)).bind fun y59 =>
      aft (loopF 1000000 (fdb_put_c1 a1 y41) y59) fun s8 =>
      (bif (decide (((s8.length : Nat) : Int) = 0)) then
        some (a0, false)
      else
        grd ((0 : Int) ≤ (IntKind.i64.wrap (((s8.length : Nat) : Int) - 1)) ∧ (IntKind.i64.wrap (((s8.length : Nat) : Int) - 1)) < ((s8.length : Nat) : Int)) <|
        (gixN s8 ((IntKind.i64.wrap (((s8.length : Nat) : Int) - 1)) : Int).toNat).bind fun v77 =>
        (lru_Drop y56.1 v77).bind fun y79 =>
        aft (rangeL (fdb_put_c2 a1 y41) y79.1 ([] : (List EntryT))) fun s9 =>
        (fdb_own_x a0).bind fun y85 =>
        grd ((0 : Int) ≤ y37.1 ∧ y37.1 < ((y85.Buckets.length : Nat) : Int)) <|
        (gixN y85.Buckets (y37.1 : Int).toNat).bind fun v88 =>
        some ((⟨(y85.Buckets.set (y37.1 : Int).toNat s9), y85.Slots, y85.Age⟩ : TableT), true))
    else
      aft (rangeL (fdb_put_c3 a1 y41) y56.1 ([] : (List EntryT))) fun s10 =>
      (fdb_own_x a0).bind fun y94 =>
      grd ((0 : Int) ≤ y37.1 ∧ y37.1 < ((y94.Buckets.length : Nat) : Int)) <|
      (gixN y94.Buckets (y37.1 : Int).toNat).bind fun v97 =>
      some ((⟨(y94.Buckets.set (y37.1 : Int).toNat s10), y94.Slots, y94.Age⟩ : TableT), true))
  else
    grd ((0 : Int) ≤ y37.2 ∧ y37.2 < ((y41.length : Nat) : Int)) <|
    (gixN y41 (y37.2 : Int).toNat).bind fun v100 =>
    (lru_Use s6 y37.2).bind fun y102 =>
    (bif (decide (a0.Slots < ((y102.1.length : Nat) : Int))) then
      grd ((0 : Int) ≤ 1 ∧ 1 ≤ ((y102.1.length : Nat) : Int)) <|
      (slices_Clone_int (y102.1.drop (1 : Int).toNat)).bind fun y105 =>
      aft (loopF 1000000 (fdb_put_c4 a1 y37 y41) y105) fun s13 =>
      (bif (decide (((s13.length : Nat) : Int) = 0)) then
        some (a0, false)
      else
        grd ((0 : Int) ≤ (IntKind.i64.wrap (((s13.length : Nat) : Int) - 1)) ∧ (IntKind.i64.wrap (((s13.length : Nat) : Int) - 1)) < ((s13.length : Nat) : Int)) <|
        (gixN s13 ((IntKind.i64.wrap (((s13.length : Nat) : Int) - 1)) : Int).toNat).bind fun v123 =>
        (lru_Drop y102.1 v123).bind fun y125 =>
        aft (rangeL (fdb_put_c5 a1 y37 y41) y125.1 ([] : (List EntryT))) fun s14 =>
        (fdb_own_x a0).bind fun y131 =>
        grd ((0 : Int) ≤ y37.1 ∧ y37.1 < ((y131.Buckets.length : Nat) : Int)) <|
        (gixN y131.Buckets (y37.1 : Int).toNat).bind fun v134 =>
        some ((⟨(y131.Buckets.set (y37.1 : Int).toNat s14), y131.Slots, y131.Age⟩ : TableT), true))
    else
      aft (rangeL (fdb_put_c6 a1 y37 y41) y102.1 ([] : (List EntryT))) fun s15 =>
      (fdb_own_x a0).bind fun y140 =>
      grd ((0 : Int) ≤ y37.1 ∧ y37.1 < ((y140.Buckets.length : Nat) : Int)) <|
      (gixN y140.Buckets (y37.1 : Int).toNat).bind fun v143 =>
      some ((⟨(y140.Buckets.set (y37.1 : Int).toNat s15), y140.Slots, y140.Age⟩ : TableT), true)))

theorem c_fdb_put (a0 : TableT) (a1 : EntryT) (r : (TableT × Bool)) (h : fdb_put a0 a1 = some r) : CallP Try.prog 79 [(LV.agg [(LV.ro 1 (a0.Buckets.map (roC 4 EntryT.cells))), (I a0.Slots), (I a0.Age)]), (LV.agg [(I a1.Mac), (I a1.Port), (I a1.Seen), (LV.bool a1.Static)])] (LV.tup [(LV.agg [(LV.ro 1 (r.1.Buckets.map (roC 4 EntryT.cells))), (I r.1.Slots), (I r.1.Age)]), (LV.bool r.2)]) := by
  unfold fdb_put at h
  refine .intro nlA (.intro TT_ok Try.func79 rfl rfl [0, 1, 2, 3, 4, 5, 6, 7, 8, 9, 10, 11, 12, 14, 29, 30, 31, 39, 60, 78, 86, 99, 100, 101, 102, 1000105, 4000118, 5000083, 8000074, 8000077] rfl ?_)
  conv => whnf
  replace h := bindS h
  obtain ⟨y37, hy37, h⟩ := h
  have c38 := c_fdb_place a0 a1.Mac _ hy37
  replace h := bindS h
  obtain ⟨v39, hv39, h⟩ := h
  have i40 := gixF (f := (roC 4 EntryT.cells)) hv39
  replace h := bindS h
  obtain ⟨y41, hy41, h⟩ := h
  have c42 := cf_slices_Clone_Entry v39 _ hy41
  repeat' first | with_reducible rfl | with_reducible exact True.intro | with_reducible assumption | refine parkI ?_ | (refine ⟨_, i40, ?_⟩; conv => whnf) | (refine CallP.use c38 ?_; conv => whnf) | (refine CallW.done (CallF.at c42 nlA (NLss_map' _)) ?_; conv => whnf) | (refine ⟨_, _, CallF.at c42 nlA (NLss_map' _), ?_⟩; conv => whnf) | (refine And.intro ?_ ?_ <;> conv => whnf) | fail
  replace h := aftS h
  obtain ⟨O6, hO6, r6⟩ := h
  refine LoopW.virt 9 3 1 rfl ?_
  refine LoopW.norm [(2, (LV.ptr 0 0 0)), (3, (LV.ptr 1 0 0)), (4, (LV.ptr 2 0 0)), (6, (I y37.1)), (7, (I y37.2)), (8, (LV.sl 3 0 (y41.map EntryT.cells).length)), (9, (LV.sl 4 0 (([] : (List Int)).map iC).length)), (29, (I (((y41.map EntryT.cells).length : Nat) : Int))), (30, (I ((0 : Nat) : Int)))] 5 [(0, (.row 69 3 [[(LV.ro 1 (a0.Buckets.map (roC 4 EntryT.cells))), (I a0.Slots), (I a0.Age)]])), (1, (.row 116 4 [[(I a1.Mac), (I a1.Port), (I a1.Seen), (LV.bool a1.Static)]])), (2, (.row 69 3 [[LV.nils, (I 0), (I 0)]])), (3, (.row 116 4 (y41.map EntryT.cells))), (4, (.row 3 1 (([] : (List Int)).map iC)))] ⟨rfl, rfl, rfl, rfl, rfl, rfl, (by exact congrArg (LV.sl 4 0) (clL _ : 0 = (([] : (List Int)).map iC).length)), rfl, rfl, trivial⟩ ⟨⟨rfl, rfl, blT⟩, ⟨⟨rfl, rfl, blT⟩, ⟨⟨rfl, rfl, blT⟩, ⟨⟨rfl, rfl, NLss_bel (NLss_map' _)⟩, ⟨⟨(congrArg (fun q => some (Blk.row 3 1 q)) (smT : ([] : List (List LV)) = (([] : (List Int)).map iC))), rfl, NLss_bel (NLss_map' _)⟩, trivial⟩⟩⟩⟩⟩ blT rfl ?_
  refine LoopW.forN (fun k6 s6 => [(2, (LV.ptr 0 0 0)), (3, (LV.ptr 1 0 0)), (4, (LV.ptr 2 0 0)), (6, (I y37.1)), (7, (I y37.2)), (8, (LV.sl 3 0 (y41.map EntryT.cells).length)), (9, (LV.sl 4 0 (s6.map iC).length)), (29, (I (((y41.map EntryT.cells).length : Nat) : Int))), (30, (I ((k6 : Nat) : Int)))]) (fun s6 => ⟨5, [(0, (.row 69 3 [[(LV.ro 1 (a0.Buckets.map (roC 4 EntryT.cells))), (I a0.Slots), (I a0.Age)]])), (1, (.row 116 4 [[(I a1.Mac), (I a1.Port), (I a1.Seen), (LV.bool a1.Static)]])), (2, (.row 69 3 [[LV.nils, (I 0), (I 0)]])), (3, (.row 116 4 (y41.map EntryT.cells))), (4, (.row 3 1 (s6.map iC)))]⟩) hO6 (fun hl6 s6 hs6 => ?_) (fun hl6 k6 s6 o6 hk6 b6 K6 hret6 hbrk6 => ?_)
  · rw [hs6] at r6
    dsimp only [aftM] at r6
    have hd : decide ((((((y41.length : Nat) : Int) : Int).toNat : Nat) : Int) < (((y41.map EntryT.cells).length : Nat) : Int)) = false := by rw [decide_eq_false_iff_not]; (try simp only [se_len, se_ch, List.length_map]); omega
    refine LoopW.round TT_ok [0, 1, 2, 3, 4, 5, 6, 7, 8, 9, 10, 11, 12, 14, 29, 30, 31, 39, 60, 78, 86, 99, 100, 101, 102, 1000105, 4000118, 5000083, 8000074, 8000077] ?_
    conv => whnf
    repeat' first | with_reducible rfl | with_reducible exact True.intro | with_reducible assumption | refine parkI ?_ | (refine And.intro ?_ ?_ <;> conv => whnf) | fail
    refine parkE (fun hc => ?_) (fun hc => ?_)
    · exact (Bool.false_ne_true (hd.symm.trans hc)).elim
    · clear hd
      conv => whnf
      repeat' first | with_reducible rfl | with_reducible exact True.intro | with_reducible assumption | refine parkI ?_ | (refine And.intro ?_ ?_ <;> conv => whnf) | fail
      refine parkE (fun hc => ?_) (fun hc => ?_)
      · replace r6 := condT hc r6
        conv => whnf
        replace r6 := grdS r6
        obtain ⟨g44, r6⟩ := r6
        replace g44 : fits (((y41.map EntryT.cells) ++ [[(I a1.Mac), (I a1.Port), (I a1.Seen), (LV.bool a1.Static)]])).length 32 := by simpa only [se_len, se_ch, List.length_map] using g44
        replace r6 := grdS r6
        obtain ⟨g45, r6⟩ := r6
        replace g45 : (0 : Int) ≤ (((y41.map EntryT.cells).length : Nat) : Int) ∧ (((y41.map EntryT.cells).length : Nat) : Int) < (((((y41.map EntryT.cells) ++ [[(I a1.Mac), (I a1.Port), (I a1.Seen), (LV.bool a1.Static)]])).length : Nat) : Int) := by simpa only [se_len, se_ch, List.length_map] using g45
        replace r6 := bindS r6
        obtain ⟨v46, hv46, r6⟩ := r6
        have i47 : nth ((y41.map EntryT.cells) ++ [[(I a1.Mac), (I a1.Port), (I a1.Seen), (LV.bool a1.Static)]]) (0 + (((((y41.map EntryT.cells).length : Nat) : Int) : Int).toNat)) = some [(I v46.Mac), (I v46.Port), (I v46.Seen), (LV.bool v46.Static)] := by simpa only [se_map, se_len, se_ch, List.length_map, nth_eq, Nat.zero_add, List.getElem?_map] using gixNF (f := EntryT.cells) hv46
        replace r6 := bindS r6
        obtain ⟨y56, hy56, r6⟩ := r6
        have c57 : CallP Try.prog 109 [(LV.ro 1 (s6.map iC)), (I (((y41.map EntryT.cells).length : Nat) : Int))] (LV.tup [(LV.ro 1 (y56.1.map iC)), (I y56.2)]) := by first | exact c_lru_Use s6 ((y41.length : Nat) : Int) _ hy56 | (simpa only [se_map, se_byL, se_len, se_ch, List.length_map] using c_lru_Use s6 ((y41.length : Nat) : Int) _ hy56)
        repeat' first | with_reducible rfl | with_reducible exact True.intro | with_reducible assumption | refine parkI ?_ | exact g44 | exact g45 | (refine CallP.use c57 ?_; conv => whnf) | (first | (rw [i47]; conv => whnf) | (erw [i47]; conv => whnf)) | exact clA _ | (refine And.intro ?_ ?_ <;> conv => whnf) | exact clN _ | fail
        refine parkE (fun hc => ?_) (fun hc => ?_)
        · replace r6 := condT (by first | exact hc | simpa only [se_len, se_ch, List.length_map] using hc) r6
          conv => whnf
          replace r6 := grdS r6
          obtain ⟨g58, r6⟩ := r6
          replace g58 : (0 : Int) ≤ 1 ∧ 1 ≤ (((y56.1.map iC).length : Nat) : Int) := by simpa only [se_len, se_ch, List.length_map] using g58
          replace r6 := bindS r6
          obtain ⟨y59, hy59, r6⟩ := r6
          have c60 : CallF Try.prog 110 [(LV.ro 1 ((y56.1.map iC).drop (1 : Int).toNat))] 3 1 (y59.map iC) := by first | exact cf_slices_Clone_int (y56.1.drop (1 : Int).toNat) _ hy59 | (simpa only [se_map, se_byL, se_len, se_ch, List.length_map] using cf_slices_Clone_int (y56.1.drop (1 : Int).toNat) _ hy59)
          repeat' first | with_reducible rfl | with_reducible exact True.intro | with_reducible assumption | refine parkI ?_ | exact g58 | (refine CallW.done (CallF.at c60 nlA (NLss_map' _)) ?_; conv => whnf) | (refine ⟨_, _, CallF.at c60 nlA (NLss_map' _), ?_⟩; conv => whnf) | (refine And.intro ?_ ?_ <;> conv => whnf) | fail
          replace r6 := aftS r6
          obtain ⟨O8, hO8, r8⟩ := r6
          refine LoopW.norm [(2, (LV.ptr 0 0 0)), (4, (LV.ptr 2 0 0)), (6, (I y37.1)), (8, (LV.sl 6 0 (((y41.map EntryT.cells) ++ [[(I a1.Mac), (I a1.Port), (I a1.Seen), (LV.bool a1.Static)]])).length)), (9, (LV.ro 1 (y56.1.map iC))), (11, (LV.sl 7 0 (y59.map iC).length))] 8 [(0, (.row 69 3 [[(LV.ro 1 (a0.Buckets.map (roC 4 EntryT.cells))), (I a0.Slots), (I a0.Age)]])), (2, (.row 69 3 [[LV.nils, (I 0), (I 0)]])), (6, (.row 116 4 (setN ((y41.map EntryT.cells) ++ [[(I a1.Mac), (I a1.Port), (I a1.Seen), (LV.bool a1.Static)]]) (0 + (((((y41.map EntryT.cells).length : Nat) : Int) : Int).toNat)) [(I a1.Mac), (I a1.Port), (I a1.Seen), (LV.bool a1.Static)]))), (7, (.row 3 1 (y59.map iC)))] ⟨rfl, rfl, rfl, rfl, rfl, rfl, trivial⟩ ⟨⟨rfl, rfl, blT⟩, ⟨⟨rfl, rfl, blT⟩, ⟨⟨rfl, rfl, NLss_bel nlT⟩, ⟨⟨rfl, rfl, NLss_bel (NLss_map' _)⟩, trivial⟩⟩⟩⟩ blT rfl ?_
          refine LoopW.forF (fun s8 => [(2, (LV.ptr 0 0 0)), (4, (LV.ptr 2 0 0)), (6, (I y37.1)), (8, (LV.sl 6 0 (((y41.map EntryT.cells) ++ [[(I a1.Mac), (I a1.Port), (I a1.Seen), (LV.bool a1.Static)]])).length)), (9, (LV.ro 1 (y56.1.map iC))), (11, (LV.sl 7 0 (s8.map iC).length))]) (fun s8 => ⟨8, [(0, (.row 69 3 [[(LV.ro 1 (a0.Buckets.map (roC 4 EntryT.cells))), (I a0.Slots), (I a0.Age)]])), (2, (.row 69 3 [[LV.nils, (I 0), (I 0)]])), (6, (.row 116 4 (setN ((y41.map EntryT.cells) ++ [[(I a1.Mac), (I a1.Port), (I a1.Seen), (LV.bool a1.Static)]]) (0 + (((((y41.map EntryT.cells).length : Nat) : Int) : Int).toNat)) [(I a1.Mac), (I a1.Port), (I a1.Seen), (LV.bool a1.Static)]))), (7, (.row 3 1 (s8.map iC)))]⟩) hO8 (fun s8 o8 b8 K8 hret8 hbrk8 => ?_)
          unfold fdb_put_c1 at b8
          refine LoopW.round TT_ok [0, 1, 2, 3, 4, 5, 6, 7, 8, 9, 10, 11, 12, 14, 29, 30, 31, 39, 60, 78, 86, 99, 100, 101, 102, 1000105, 4000118, 5000083, 8000074, 8000077] ?_
          conv => whnf
          replace b8 := grdS b8
          obtain ⟨g61, b8⟩ := b8
          replace g61 : (decide (0 < (((s8.map iC).length : Nat) : Int))) = true → (0 : Int) ≤ (IntKind.i64.wrap ((((s8.map iC).length : Nat) : Int) - 1)) ∧ (IntKind.i64.wrap ((((s8.map iC).length : Nat) : Int) - 1)) < (((s8.map iC).length : Nat) : Int) := by simpa only [se_len, se_ch, List.length_map] using g61
          repeat' first | with_reducible rfl | with_reducible exact True.intro | with_reducible assumption | refine parkI ?_ | exact g61 | exact clA _ | (refine And.intro ?_ ?_ <;> conv => whnf) | exact clG _ | (refine gand ?_ h; assumption) | fail
          refine parkE (fun hg2_ => ?_) (fun hg2_ => ?_)
          · replace b8 := condT (by first | exact hg2_ | simpa only [se_len, se_ch, List.length_map] using hg2_) b8
            conv => whnf
            replace b8 := bindS b8
            obtain ⟨v62, hv62, b8⟩ := b8
            have i63 : nth (s8.map iC) (0 + (((IntKind.i64.wrap ((((s8.map iC).length : Nat) : Int) - 1)) : Int).toNat)) = some [(I v62)] := by simpa only [se_map, se_len, se_ch, List.length_map, nth_eq, Nat.zero_add, List.getElem?_map] using gixNF (f := iC) hv62
            replace b8 := grdS b8
            obtain ⟨g64, b8⟩ := b8
            replace g64 : (decide (0 < (((s8.map iC).length : Nat) : Int))) = true → (0 : Int) ≤ v62 ∧ v62 < (((((y41.map EntryT.cells) ++ [[(I a1.Mac), (I a1.Port), (I a1.Seen), (LV.bool a1.Static)]])).length : Nat) : Int) := by simpa only [se_len, se_ch, List.length_map] using g64
            replace b8 := bindS b8
            obtain ⟨v65, hv65, b8⟩ := b8
            have i66 : nth (setN ((y41.map EntryT.cells) ++ [[(I a1.Mac), (I a1.Port), (I a1.Seen), (LV.bool a1.Static)]]) (0 + (((((y41.map EntryT.cells).length : Nat) : Int) : Int).toNat)) [(I a1.Mac), (I a1.Port), (I a1.Seen), (LV.bool a1.Static)]) (0 + ((v62 : Int).toNat)) = some [(I v65.Mac), (I v65.Port), (I v65.Seen), (LV.bool v65.Static)] := by simpa only [se_map, se_len, se_ch, List.length_map, nth_eq, Nat.zero_add, List.getElem?_map] using gixNF (f := EntryT.cells) hv65
            repeat' first | with_reducible rfl | with_reducible exact True.intro | with_reducible assumption | ((with_reducible refine parkX hg2_ ?_); conv => whnf) | refine parkI ?_ | exact g64 | (rw [i63]; conv => whnf) | (first | (rw [i66]; conv => whnf) | (erw [i66]; conv => whnf)) | exact clA _ | (refine And.intro ?_ ?_ <;> conv => whnf) | exact clG _ | (refine gand ?_ h; assumption) | (intro hq_; conv => whnf) | fail
            refine parkE (fun hc => ?_) (fun hc => ?_)
            · replace b8 := condT (by first | exact hc | simpa only [se_len, se_ch, List.length_map] using hc) b8
              conv => whnf
              replace b8 := grdS b8
              obtain ⟨g67, b8⟩ := b8
              replace g67 : (0 : Int) ≤ (IntKind.i64.wrap ((((s8.map iC).length : Nat) : Int) - 1)) ∧ (IntKind.i64.wrap ((((s8.map iC).length : Nat) : Int) - 1)) ≤ (((s8.map iC).length : Nat) : Int) := by simpa only [se_len, se_ch, List.length_map] using g67
              repeat' first | with_reducible rfl | with_reducible exact True.intro | with_reducible assumption | ((with_reducible refine parkX hg2_ ?_); conv => whnf) | refine parkI ?_ | exact g67 | exact clA _ | (refine And.intro ?_ ?_ <;> conv => whnf) | exact clN _ | (intro hq_; conv => whnf) | fail
              have e := Option.some.inj b8
              refine LoopW.norm [(2, (LV.ptr 0 0 0)), (4, (LV.ptr 2 0 0)), (6, (I y37.1)), (8, (LV.sl 6 0 (((y41.map EntryT.cells) ++ [[(I a1.Mac), (I a1.Port), (I a1.Seen), (LV.bool a1.Static)]])).length)), (9, (LV.ro 1 (y56.1.map iC))), (11, (LV.sl 7 0 ((s8.take ((IntKind.i64.wrap (((s8.length : Nat) : Int) - 1)) : Int).toNat).map iC).length))] 8 [(0, (.row 69 3 [[(LV.ro 1 (a0.Buckets.map (roC 4 EntryT.cells))), (I a0.Slots), (I a0.Age)]])), (2, (.row 69 3 [[LV.nils, (I 0), (I 0)]])), (6, (.row 116 4 (setN ((y41.map EntryT.cells) ++ [[(I a1.Mac), (I a1.Port), (I a1.Seen), (LV.bool a1.Static)]]) (0 + (((((y41.map EntryT.cells).length : Nat) : Int) : Int).toNat)) [(I a1.Mac), (I a1.Port), (I a1.Seen), (LV.bool a1.Static)]))), (7, (.row 3 1 ((s8.take ((IntKind.i64.wrap (((s8.length : Nat) : Int) - 1)) : Int).toNat).map iC)))] ⟨rfl, rfl, rfl, rfl, rfl, (by exact congrArg (LV.sl 7 0) (clL _ : ((IntKind.i64.wrap ((((s8.map iC).length : Nat) : Int) - 1)) : Int).toNat = ((s8.take ((IntKind.i64.wrap (((s8.length : Nat) : Int) - 1)) : Int).toNat).map iC).length)), trivial⟩ ⟨⟨rfl, rfl, blT⟩, ⟨⟨rfl, rfl, blT⟩, ⟨⟨rfl, rfl, NLss_bel nlT⟩, ⟨⟨(by first | exact (congrArg (fun q => some (Blk.row 3 1 q)) (smT : (((s8.map iC).take ((IntKind.i64.wrap ((((s8.map iC).length : Nat) : Int) - 1)) : Int).toNat) : List (List LV)) = ((s8.take ((IntKind.i64.wrap (((s8.length : Nat) : Int) - 1)) : Int).toNat).map iC))) | exact Eq.trans (b := some (Blk.row 3 1 ((s8.map iC).take ((IntKind.i64.wrap ((((s8.map iC).length : Nat) : Int) - 1)) : Int).toNat))) rfl (congrArg (fun q => some (Blk.row 3 1 q)) (smT : (((s8.map iC).take ((IntKind.i64.wrap ((((s8.map iC).length : Nat) : Int) - 1)) : Int).toNat) : List (List LV)) = ((s8.take ((IntKind.i64.wrap (((s8.length : Nat) : Int) - 1)) : Int).toNat).map iC)))), rfl, NLss_bel (NLss_map' _)⟩, trivial⟩⟩⟩⟩ blT rfl (K8 _ e.symm)
            · replace b8 := condF (by first | exact hc | simpa only [se_len, se_ch, List.length_map] using hc) b8
              conv => whnf
              have e := Option.some.inj b8
              replace e := hbrk8 _ e.symm
              rw [e] at r8
              dsimp only [aftM] at r8
              repeat' first | with_reducible rfl | with_reducible exact True.intro | with_reducible assumption | ((with_reducible refine parkX hg2_ ?_); conv => whnf) | refine parkI ?_ | (refine And.intro ?_ ?_ <;> conv => whnf) | fail
              refine parkE (fun hc => ?_) (fun hc => ?_)
              · replace r8 := condT (by first | exact hc | simpa only [se_len, se_ch, List.length_map] using hc) r8
                conv => whnf
                have e := Option.some.inj r8
                subst e
                repeat' first | with_reducible rfl | with_reducible exact True.intro | with_reducible assumption | ((with_reducible refine parkX hg2_ ?_); conv => whnf) | exact clA _ | (refine And.intro ?_ ?_ <;> conv => whnf) | exact clG _ | (refine gand ?_ h; assumption) | exact clN _ | fail
              · replace r8 := condF (by first | exact hc | simpa only [se_len, se_ch, List.length_map] using hc) r8
                conv => whnf
                replace r8 := grdS r8
                obtain ⟨g68, r8⟩ := r8
                replace g68 : (0 : Int) ≤ (IntKind.i64.wrap ((((s8.map iC).length : Nat) : Int) - 1)) ∧ (IntKind.i64.wrap ((((s8.map iC).length : Nat) : Int) - 1)) < (((s8.map iC).length : Nat) : Int) := by simpa only [se_len, se_ch, List.length_map] using g68
                replace r8 := bindS r8
                obtain ⟨v69, hv69, r8⟩ := r8
                have i70 : nth (s8.map iC) (0 + (((IntKind.i64.wrap ((((s8.map iC).length : Nat) : Int) - 1)) : Int).toNat)) = some [(I v69)] := by simpa only [se_map, se_len, se_ch, List.length_map, nth_eq, Nat.zero_add, List.getElem?_map] using gixNF (f := iC) hv69
                replace r8 := bindS r8
                obtain ⟨y75, hy75, r8⟩ := r8
                have c76 := c_lru_Drop y56.1 v69 _ hy75
                repeat' first | with_reducible rfl | with_reducible exact True.intro | with_reducible assumption | ((with_reducible refine parkX hg2_ ?_); conv => whnf) | refine parkI ?_ | exact g68 | (refine CallP.use c76 ?_; conv => whnf) | (rw [i70]; conv => whnf) | (refine And.intro ?_ ?_ <;> conv => whnf) | fail
                replace r8 := aftS r8
                obtain ⟨O9, hO9, r9⟩ := r8
                refine LoopW.virt 12 116 4 rfl ?_
                refine LoopW.norm [(2, (LV.ptr 0 0 0)), (4, (LV.ptr 2 0 0)), (6, (I y37.1)), (8, (LV.sl 6 0 (((y41.map EntryT.cells) ++ [[(I a1.Mac), (I a1.Port), (I a1.Seen), (LV.bool a1.Static)]])).length)), (12, (LV.sl 8 0 (([] : (List EntryT)).map EntryT.cells).length)), (99, (LV.ro 1 (y75.1.map iC))), (100, (I (((y75.1.map iC).length : Nat) : Int))), (101, (I ((0 : Nat) : Int)))] 9 [(0, (.row 69 3 [[(LV.ro 1 (a0.Buckets.map (roC 4 EntryT.cells))), (I a0.Slots), (I a0.Age)]])), (2, (.row 69 3 [[LV.nils, (I 0), (I 0)]])), (6, (.row 116 4 (setN ((y41.map EntryT.cells) ++ [[(I a1.Mac), (I a1.Port), (I a1.Seen), (LV.bool a1.Static)]]) (0 + (((((y41.map EntryT.cells).length : Nat) : Int) : Int).toNat)) [(I a1.Mac), (I a1.Port), (I a1.Seen), (LV.bool a1.Static)]))), (8, (.row 116 4 (([] : (List EntryT)).map EntryT.cells)))] ⟨rfl, rfl, rfl, rfl, (by exact congrArg (LV.sl 8 0) (clL _ : 0 = (([] : (List EntryT)).map EntryT.cells).length)), rfl, rfl, rfl, trivial⟩ ⟨⟨rfl, rfl, blT⟩, ⟨⟨rfl, rfl, blT⟩, ⟨⟨rfl, rfl, NLss_bel nlT⟩, ⟨⟨(congrArg (fun q => some (Blk.row 116 4 q)) (smT : ([] : List (List LV)) = (([] : (List EntryT)).map EntryT.cells))), rfl, NLss_bel (NLss_map' _)⟩, trivial⟩⟩⟩⟩ blT rfl ?_
                refine LoopW.forR (fun k9 s9 => [(2, (LV.ptr 0 0 0)), (4, (LV.ptr 2 0 0)), (6, (I y37.1)), (8, (LV.sl 6 0 (((y41.map EntryT.cells) ++ [[(I a1.Mac), (I a1.Port), (I a1.Seen), (LV.bool a1.Static)]])).length)), (12, (LV.sl 8 0 (s9.map EntryT.cells).length)), (99, (LV.ro 1 (y75.1.map iC))), (100, (I (((y75.1.map iC).length : Nat) : Int))), (101, (I ((k9 : Nat) : Int)))]) (fun s9 => ⟨9, [(0, (.row 69 3 [[(LV.ro 1 (a0.Buckets.map (roC 4 EntryT.cells))), (I a0.Slots), (I a0.Age)]])), (2, (.row 69 3 [[LV.nils, (I 0), (I 0)]])), (6, (.row 116 4 (setN ((y41.map EntryT.cells) ++ [[(I a1.Mac), (I a1.Port), (I a1.Seen), (LV.bool a1.Static)]]) (0 + (((((y41.map EntryT.cells).length : Nat) : Int) : Int).toNat)) [(I a1.Mac), (I a1.Port), (I a1.Seen), (LV.bool a1.Static)]))), (8, (.row 116 4 (s9.map EntryT.cells)))]⟩) hO9 (fun hl9 s9 hs9 => ?_) (fun hl9 k9 x9 s9 o9 hk9 hx9 b9 K9 hret9 hbrk9 => ?_)
                · rw [hs9] at r9
                  dsimp only [aftM] at r9
                  have hd : decide (((y75.1.length : Nat) : Int) < (((y75.1.map iC).length : Nat) : Int)) = false := by rw [decide_eq_false_iff_not]; (try simp only [se_len, se_ch, List.length_map]); omega
                  refine LoopW.round TT_ok [0, 1, 2, 3, 4, 5, 6, 7, 8, 9, 10, 11, 12, 14, 29, 30, 31, 39, 60, 78, 86, 99, 100, 101, 102, 1000105, 4000118, 5000083, 8000074, 8000077] ?_
                  conv => whnf
                  repeat' first | with_reducible rfl | with_reducible exact True.intro | with_reducible assumption | refine parkI ?_ | (refine And.intro ?_ ?_ <;> conv => whnf) | fail
                  refine parkE (fun hc => ?_) (fun hc => ?_)
                  · exact (Bool.false_ne_true (hd.symm.trans hc)).elim
                  · clear hd
                    conv => whnf
                    replace r9 := bindS r9
                    obtain ⟨y82, hy82, r9⟩ := r9
                    have c83 : CallW Try.prog 105 [(LV.agg [(LV.ro 1 (a0.Buckets.map (roC 4 EntryT.cells))), (I a0.Slots), (I a0.Age)])] ⟨0, []⟩ (fun lv H' => lv = (LV.agg [(LV.sl 0 0 (y82.Buckets.map (roC 4 EntryT.cells)).length), (I y82.Slots), (I y82.Age)]) ∧ H' = ⟨1, [(0, (.row 111 1 (y82.Buckets.map (roC 4 EntryT.cells))))]⟩) := w_fdb_own_x a0 _ hy82
                    replace r9 := grdS r9
                    obtain ⟨g84, r9⟩ := r9
                    replace g84 : (0 : Int) ≤ y37.1 ∧ y37.1 < (((y82.Buckets.map (roC 4 EntryT.cells)).length : Nat) : Int) := by simpa only [se_len, se_ch, List.length_map] using g84
                    replace r9 := bindS r9
                    obtain ⟨v85, hv85, r9⟩ := r9
                    have i86 : nth (y82.Buckets.map (roC 4 EntryT.cells)) (0 + ((y37.1 : Int).toNat)) = some [(LV.ro 4 (v85.map EntryT.cells))] := by simpa only [se_map, se_len, se_ch, List.length_map, nth_eq, Nat.zero_add, List.getElem?_map] using gixNF (f := (roC 4 EntryT.cells)) hv85
                    have e := Option.some.inj r9
                    subst e
                    repeat' first | with_reducible rfl | with_reducible exact True.intro | with_reducible assumption | exact g84 | (refine CallW.frame (nx2 := 10) (l2 := [(9, (.row 111 1 (y82.Buckets.map (roC 4 EntryT.cells))))]) [] [(0, 9)] c83 rfl rfl trivial rfl rfl ⟨⟨rfl, rfl, .inl ⟨rfl, nlT⟩⟩, rfl, rfl, trivial⟩ ?_; conv => whnf) | (rw [i86]; conv => whnf) | exact clA _ | (refine And.intro ?_ ?_ <;> conv => whnf) | exact clG _ | (refine gand ?_ h; assumption) | exact clN _ | fail
                · unfold fdb_put_c2 at b9
                  have hd : decide (((k9 : Nat) : Int) < (((y75.1.map iC).length : Nat) : Int)) = true := by rw [decide_eq_true_eq]; (try simp only [se_len, se_ch, List.length_map] at hk9); (try simp only [se_len, se_ch, List.length_map]); omega
                  refine LoopW.round TT_ok [0, 1, 2, 3, 4, 5, 6, 7, 8, 9, 10, 11, 12, 14, 29, 30, 31, 39, 60, 78, 86, 99, 100, 101, 102, 1000105, 4000118, 5000083, 8000074, 8000077] ?_
                  conv => whnf
                  repeat' first | with_reducible rfl | with_reducible exact True.intro | with_reducible assumption | refine parkI ?_ | (refine And.intro ?_ ?_ <;> conv => whnf) | fail
                  refine parkE (fun hc => ?_) (fun hc => ?_)
                  · clear hd
                    conv => whnf
                    replace b9 := grdS b9
                    obtain ⟨g77, b9⟩ := b9
                    replace g77 : (0 : Int) ≤ x9 ∧ x9 < (((((y41.map EntryT.cells) ++ [[(I a1.Mac), (I a1.Port), (I a1.Seen), (LV.bool a1.Static)]])).length : Nat) : Int) := by simpa only [se_len, se_ch, List.length_map] using g77
                    replace b9 := bindS b9
                    obtain ⟨v78, hv78, b9⟩ := b9
                    have i79 : nth (setN ((y41.map EntryT.cells) ++ [[(I a1.Mac), (I a1.Port), (I a1.Seen), (LV.bool a1.Static)]]) (0 + (((((y41.map EntryT.cells).length : Nat) : Int) : Int).toNat)) [(I a1.Mac), (I a1.Port), (I a1.Seen), (LV.bool a1.Static)]) (0 + ((x9 : Int).toNat)) = some [(I v78.Mac), (I v78.Port), (I v78.Seen), (LV.bool v78.Static)] := by simpa only [se_map, se_len, se_ch, List.length_map, nth_eq, Nat.zero_add, List.getElem?_map] using gixNF (f := EntryT.cells) hv78
                    replace b9 := grdS b9
                    obtain ⟨g80, b9⟩ := b9
                    replace g80 : fits (((s9.map EntryT.cells) ++ [[(I v78.Mac), (I v78.Port), (I v78.Seen), (LV.bool v78.Static)]])).length 32 := by simpa only [se_len, se_ch, List.length_map] using g80
                    repeat' first | with_reducible rfl | with_reducible exact True.intro | with_reducible assumption | refine parkI ?_ | (refine ⟨_, (kixF (f := iC) hx9), ?_⟩; conv => whnf) | exact g77 | exact g80 | (first | (rw [i79]; conv => whnf) | (erw [i79]; conv => whnf)) | exact clA _ | (refine And.intro ?_ ?_ <;> conv => whnf) | exact clN _ | fail
                    have e := Option.some.inj b9
                    refine LoopW.ren [(0, 0), (2, 2), (6, 6), (10, 8)] [(2, (LV.ptr 0 0 0)), (4, (LV.ptr 2 0 0)), (6, (I y37.1)), (8, (LV.sl 6 0 (((y41.map EntryT.cells) ++ [[(I a1.Mac), (I a1.Port), (I a1.Seen), (LV.bool a1.Static)]])).length)), (12, (LV.sl 8 0 ((s9 ++ ([v78] : (List EntryT))).map EntryT.cells).length)), (99, (LV.ro 1 (y75.1.map iC))), (100, (I (((y75.1.map iC).length : Nat) : Int))), (101, (I ((k9 + 1 : Nat) : Int)))] 9 [(0, (.row 69 3 [[(LV.ro 1 (a0.Buckets.map (roC 4 EntryT.cells))), (I a0.Slots), (I a0.Age)]])), (2, (.row 69 3 [[LV.nils, (I 0), (I 0)]])), (6, (.row 116 4 (setN ((y41.map EntryT.cells) ++ [[(I a1.Mac), (I a1.Port), (I a1.Seen), (LV.bool a1.Static)]]) (0 + (((((y41.map EntryT.cells).length : Nat) : Int) : Int).toNat)) [(I a1.Mac), (I a1.Port), (I a1.Seen), (LV.bool a1.Static)]))), (8, (.row 116 4 ((s9 ++ ([v78] : (List EntryT))).map EntryT.cells)))] rfl ⟨rfl, rfl, rfl, rfl, (by exact congrArg (LV.sl 8 0) (clL _ : (((s9.map EntryT.cells) ++ [[(I v78.Mac), (I v78.Port), (I v78.Seen), (LV.bool v78.Static)]])).length = ((s9 ++ ([v78] : (List EntryT))).map EntryT.cells).length)), rfl, rfl, (congrArg (LV.int .i64) (w64_nat _ (by omega))), trivial⟩ ⟨⟨rfl, rfl, .inl ⟨rfl, nlT⟩⟩, rfl, rfl, ⟨⟨rfl, rfl, .inl ⟨rfl, nlT⟩⟩, rfl, rfl, ⟨⟨rfl, rfl, .inl ⟨rfl, nlT⟩⟩, rfl, rfl, ⟨⟨rfl, rfl, .inl ⟨(smT : (((s9.map EntryT.cells) ++ [[(I v78.Mac), (I v78.Port), (I v78.Seen), (LV.bool v78.Static)]]) : List (List LV)) = ((s9 ++ ([v78] : (List EntryT))).map EntryT.cells)), nlT⟩⟩, rfl, rfl, trivial⟩⟩⟩⟩ rfl (K9 _ e.symm)
                  · exact (Bool.false_ne_true (hc.symm.trans hd)).elim
          · replace b8 := condF (by first | exact hg2_ | simpa only [se_len, se_ch, List.length_map] using hg2_) b8
            conv => whnf
            repeat' first | with_reducible rfl | with_reducible exact True.intro | with_reducible assumption | refine parkI ?_ | exact (by first | exact hg2_ | simpa using hg2_ : _ = false) | (refine ⟨?_, True.intro⟩; first | exact hg2_ | (simpa using hg2_; done)) | exact clA _ | (refine And.intro ?_ ?_ <;> conv => whnf) | exact clG _ | (refine gand ?_ h; assumption) | (intro hq_; conv => whnf) | fail
            refine parkE (fun hc => ?_) (fun hc => ?_)
            · exact (Bool.false_ne_true (((rfl : false = false)).symm.trans hc)).elim
            · conv => whnf
              have e := Option.some.inj b8
              replace e := hbrk8 _ e.symm
              rw [e] at r8
              dsimp only [aftM] at r8
              repeat' first | with_reducible rfl | with_reducible exact True.intro | with_reducible assumption | refine parkI ?_ | (refine And.intro ?_ ?_ <;> conv => whnf) | fail
              refine parkE (fun hc => ?_) (fun hc => ?_)
              · replace r8 := condT (by first | exact hc | simpa only [se_len, se_ch, List.length_map] using hc) r8
                conv => whnf
                have e := Option.some.inj r8
                subst e
                repeat' first | with_reducible rfl | with_reducible exact True.intro | with_reducible assumption | exact clA _ | (refine And.intro ?_ ?_ <;> conv => whnf) | exact clG _ | (refine gand ?_ h; assumption) | exact clN _ | fail
              · replace r8 := condF (by first | exact hc | simpa only [se_len, se_ch, List.length_map] using hc) r8
                conv => whnf
                replace r8 := grdS r8
                obtain ⟨g62, r8⟩ := r8
                replace g62 : (0 : Int) ≤ (IntKind.i64.wrap ((((s8.map iC).length : Nat) : Int) - 1)) ∧ (IntKind.i64.wrap ((((s8.map iC).length : Nat) : Int) - 1)) < (((s8.map iC).length : Nat) : Int) := by simpa only [se_len, se_ch, List.length_map] using g62
                replace r8 := bindS r8
                obtain ⟨v63, hv63, r8⟩ := r8
                have i64 : nth (s8.map iC) (0 + (((IntKind.i64.wrap ((((s8.map iC).length : Nat) : Int) - 1)) : Int).toNat)) = some [(I v63)] := by simpa only [se_map, se_len, se_ch, List.length_map, nth_eq, Nat.zero_add, List.getElem?_map] using gixNF (f := iC) hv63
                replace r8 := bindS r8
                obtain ⟨y65, hy65, r8⟩ := r8
                have c66 := c_lru_Drop y56.1 v63 _ hy65
                repeat' first | with_reducible rfl | with_reducible exact True.intro | with_reducible assumption | refine parkI ?_ | exact g62 | (refine CallP.use c66 ?_; conv => whnf) | (rw [i64]; conv => whnf) | (refine And.intro ?_ ?_ <;> conv => whnf) | fail
                replace r8 := aftS r8
                obtain ⟨O9, hO9, r9⟩ := r8
                refine LoopW.virt 12 116 4 rfl ?_
                refine LoopW.norm [(2, (LV.ptr 0 0 0)), (4, (LV.ptr 2 0 0)), (6, (I y37.1)), (8, (LV.sl 6 0 (((y41.map EntryT.cells) ++ [[(I a1.Mac), (I a1.Port), (I a1.Seen), (LV.bool a1.Static)]])).length)), (12, (LV.sl 8 0 (([] : (List EntryT)).map EntryT.cells).length)), (99, (LV.ro 1 (y65.1.map iC))), (100, (I (((y65.1.map iC).length : Nat) : Int))), (101, (I ((0 : Nat) : Int)))] 9 [(0, (.row 69 3 [[(LV.ro 1 (a0.Buckets.map (roC 4 EntryT.cells))), (I a0.Slots), (I a0.Age)]])), (2, (.row 69 3 [[LV.nils, (I 0), (I 0)]])), (6, (.row 116 4 (setN ((y41.map EntryT.cells) ++ [[(I a1.Mac), (I a1.Port), (I a1.Seen), (LV.bool a1.Static)]]) (0 + (((((y41.map EntryT.cells).length : Nat) : Int) : Int).toNat)) [(I a1.Mac), (I a1.Port), (I a1.Seen), (LV.bool a1.Static)]))), (8, (.row 116 4 (([] : (List EntryT)).map EntryT.cells)))] ⟨rfl, rfl, rfl, rfl, (by exact congrArg (LV.sl 8 0) (clL _ : 0 = (([] : (List EntryT)).map EntryT.cells).length)), rfl, rfl, rfl, trivial⟩ ⟨⟨rfl, rfl, blT⟩, ⟨⟨rfl, rfl, blT⟩, ⟨⟨rfl, rfl, NLss_bel nlT⟩, ⟨⟨(congrArg (fun q => some (Blk.row 116 4 q)) (smT : ([] : List (List LV)) = (([] : (List EntryT)).map EntryT.cells))), rfl, NLss_bel (NLss_map' _)⟩, trivial⟩⟩⟩⟩ blT rfl ?_
                refine LoopW.forR (fun k9 s9 => [(2, (LV.ptr 0 0 0)), (4, (LV.ptr 2 0 0)), (6, (I y37.1)), (8, (LV.sl 6 0 (((y41.map EntryT.cells) ++ [[(I a1.Mac), (I a1.Port), (I a1.Seen), (LV.bool a1.Static)]])).length)), (12, (LV.sl 8 0 (s9.map EntryT.cells).length)), (99, (LV.ro 1 (y65.1.map iC))), (100, (I (((y65.1.map iC).length : Nat) : Int))), (101, (I ((k9 : Nat) : Int)))]) (fun s9 => ⟨9, [(0, (.row 69 3 [[(LV.ro 1 (a0.Buckets.map (roC 4 EntryT.cells))), (I a0.Slots), (I a0.Age)]])), (2, (.row 69 3 [[LV.nils, (I 0), (I 0)]])), (6, (.row 116 4 (setN ((y41.map EntryT.cells) ++ [[(I a1.Mac), (I a1.Port), (I a1.Seen), (LV.bool a1.Static)]]) (0 + (((((y41.map EntryT.cells).length : Nat) : Int) : Int).toNat)) [(I a1.Mac), (I a1.Port), (I a1.Seen), (LV.bool a1.Static)]))), (8, (.row 116 4 (s9.map EntryT.cells)))]⟩) hO9 (fun hl9 s9 hs9 => ?_) (fun hl9 k9 x9 s9 o9 hk9 hx9 b9 K9 hret9 hbrk9 => ?_)
                · rw [hs9] at r9
                  dsimp only [aftM] at r9
                  have hd : decide (((y65.1.length : Nat) : Int) < (((y65.1.map iC).length : Nat) : Int)) = false := by rw [decide_eq_false_iff_not]; (try simp only [se_len, se_ch, List.length_map]); omega
                  refine LoopW.round TT_ok [0, 1, 2, 3, 4, 5, 6, 7, 8, 9, 10, 11, 12, 14, 29, 30, 31, 39, 60, 78, 86, 99, 100, 101, 102, 1000105, 4000118, 5000083, 8000074, 8000077] ?_
                  conv => whnf
                  repeat' first | with_reducible rfl | with_reducible exact True.intro | with_reducible assumption | refine parkI ?_ | (refine And.intro ?_ ?_ <;> conv => whnf) | fail
                  refine parkE (fun hc => ?_) (fun hc => ?_)
                  · exact (Bool.false_ne_true (hd.symm.trans hc)).elim
                  · clear hd
                    conv => whnf
                    replace r9 := bindS r9
                    obtain ⟨y71, hy71, r9⟩ := r9
                    have c72 : CallW Try.prog 105 [(LV.agg [(LV.ro 1 (a0.Buckets.map (roC 4 EntryT.cells))), (I a0.Slots), (I a0.Age)])] ⟨0, []⟩ (fun lv H' => lv = (LV.agg [(LV.sl 0 0 (y71.Buckets.map (roC 4 EntryT.cells)).length), (I y71.Slots), (I y71.Age)]) ∧ H' = ⟨1, [(0, (.row 111 1 (y71.Buckets.map (roC 4 EntryT.cells))))]⟩) := w_fdb_own_x a0 _ hy71
                    replace r9 := grdS r9
                    obtain ⟨g73, r9⟩ := r9
                    replace g73 : (0 : Int) ≤ y37.1 ∧ y37.1 < (((y71.Buckets.map (roC 4 EntryT.cells)).length : Nat) : Int) := by simpa only [se_len, se_ch, List.length_map] using g73
                    replace r9 := bindS r9
                    obtain ⟨v74, hv74, r9⟩ := r9
                    have i75 : nth (y71.Buckets.map (roC 4 EntryT.cells)) (0 + ((y37.1 : Int).toNat)) = some [(LV.ro 4 (v74.map EntryT.cells))] := by simpa only [se_map, se_len, se_ch, List.length_map, nth_eq, Nat.zero_add, List.getElem?_map] using gixNF (f := (roC 4 EntryT.cells)) hv74
                    have e := Option.some.inj r9
                    subst e
                    repeat' first | with_reducible rfl | with_reducible exact True.intro | with_reducible assumption | exact g73 | (refine CallW.frame (nx2 := 10) (l2 := [(9, (.row 111 1 (y71.Buckets.map (roC 4 EntryT.cells))))]) [] [(0, 9)] c72 rfl rfl trivial rfl rfl ⟨⟨rfl, rfl, .inl ⟨rfl, nlT⟩⟩, rfl, rfl, trivial⟩ ?_; conv => whnf) | (rw [i75]; conv => whnf) | exact clA _ | (refine And.intro ?_ ?_ <;> conv => whnf) | exact clG _ | (refine gand ?_ h; assumption) | exact clN _ | fail
                · unfold fdb_put_c2 at b9
                  have hd : decide (((k9 : Nat) : Int) < (((y65.1.map iC).length : Nat) : Int)) = true := by rw [decide_eq_true_eq]; (try simp only [se_len, se_ch, List.length_map] at hk9); (try simp only [se_len, se_ch, List.length_map]); omega
                  refine LoopW.round TT_ok [0, 1, 2, 3, 4, 5, 6, 7, 8, 9, 10, 11, 12, 14, 29, 30, 31, 39, 60, 78, 86, 99, 100, 101, 102, 1000105, 4000118, 5000083, 8000074, 8000077] ?_
                  conv => whnf
                  repeat' first | with_reducible rfl | with_reducible exact True.intro | with_reducible assumption | refine parkI ?_ | (refine And.intro ?_ ?_ <;> conv => whnf) | fail
                  refine parkE (fun hc => ?_) (fun hc => ?_)
                  · clear hd
                    conv => whnf
                    replace b9 := grdS b9
                    obtain ⟨g67, b9⟩ := b9
                    replace g67 : (0 : Int) ≤ x9 ∧ x9 < (((((y41.map EntryT.cells) ++ [[(I a1.Mac), (I a1.Port), (I a1.Seen), (LV.bool a1.Static)]])).length : Nat) : Int) := by simpa only [se_len, se_ch, List.length_map] using g67
                    replace b9 := bindS b9
                    obtain ⟨v68, hv68, b9⟩ := b9
                    have i69 : nth (setN ((y41.map EntryT.cells) ++ [[(I a1.Mac), (I a1.Port), (I a1.Seen), (LV.bool a1.Static)]]) (0 + (((((y41.map EntryT.cells).length : Nat) : Int) : Int).toNat)) [(I a1.Mac), (I a1.Port), (I a1.Seen), (LV.bool a1.Static)]) (0 + ((x9 : Int).toNat)) = some [(I v68.Mac), (I v68.Port), (I v68.Seen), (LV.bool v68.Static)] := by simpa only [se_map, se_len, se_ch, List.length_map, nth_eq, Nat.zero_add, List.getElem?_map] using gixNF (f := EntryT.cells) hv68
                    replace b9 := grdS b9
                    obtain ⟨g70, b9⟩ := b9
                    replace g70 : fits (((s9.map EntryT.cells) ++ [[(I v68.Mac), (I v68.Port), (I v68.Seen), (LV.bool v68.Static)]])).length 32 := by simpa only [se_len, se_ch, List.length_map] using g70
                    repeat' first | with_reducible rfl | with_reducible exact True.intro | with_reducible assumption | refine parkI ?_ | (refine ⟨_, (kixF (f := iC) hx9), ?_⟩; conv => whnf) | exact g67 | exact g70 | (first | (rw [i69]; conv => whnf) | (erw [i69]; conv => whnf)) | exact clA _ | (refine And.intro ?_ ?_ <;> conv => whnf) | exact clN _ | fail
                    have e := Option.some.inj b9
                    refine LoopW.ren [(0, 0), (2, 2), (6, 6), (10, 8)] [(2, (LV.ptr 0 0 0)), (4, (LV.ptr 2 0 0)), (6, (I y37.1)), (8, (LV.sl 6 0 (((y41.map EntryT.cells) ++ [[(I a1.Mac), (I a1.Port), (I a1.Seen), (LV.bool a1.Static)]])).length)), (12, (LV.sl 8 0 ((s9 ++ ([v68] : (List EntryT))).map EntryT.cells).length)), (99, (LV.ro 1 (y65.1.map iC))), (100, (I (((y65.1.map iC).length : Nat) : Int))), (101, (I ((k9 + 1 : Nat) : Int)))] 9 [(0, (.row 69 3 [[(LV.ro 1 (a0.Buckets.map (roC 4 EntryT.cells))), (I a0.Slots), (I a0.Age)]])), (2, (.row 69 3 [[LV.nils, (I 0), (I 0)]])), (6, (.row 116 4 (setN ((y41.map EntryT.cells) ++ [[(I a1.Mac), (I a1.Port), (I a1.Seen), (LV.bool a1.Static)]]) (0 + (((((y41.map EntryT.cells).length : Nat) : Int) : Int).toNat)) [(I a1.Mac), (I a1.Port), (I a1.Seen), (LV.bool a1.Static)]))), (8, (.row 116 4 ((s9 ++ ([v68] : (List EntryT))).map EntryT.cells)))] rfl ⟨rfl, rfl, rfl, rfl, (by exact congrArg (LV.sl 8 0) (clL _ : (((s9.map EntryT.cells) ++ [[(I v68.Mac), (I v68.Port), (I v68.Seen), (LV.bool v68.Static)]])).length = ((s9 ++ ([v68] : (List EntryT))).map EntryT.cells).length)), rfl, rfl, (congrArg (LV.int .i64) (w64_nat _ (by omega))), trivial⟩ ⟨⟨rfl, rfl, .inl ⟨rfl, nlT⟩⟩, rfl, rfl, ⟨⟨rfl, rfl, .inl ⟨rfl, nlT⟩⟩, rfl, rfl, ⟨⟨rfl, rfl, .inl ⟨rfl, nlT⟩⟩, rfl, rfl, ⟨⟨rfl, rfl, .inl ⟨(smT : (((s9.map EntryT.cells) ++ [[(I v68.Mac), (I v68.Port), (I v68.Seen), (LV.bool v68.Static)]]) : List (List LV)) = ((s9 ++ ([v68] : (List EntryT))).map EntryT.cells)), nlT⟩⟩, rfl, rfl, trivial⟩⟩⟩⟩ rfl (K9 _ e.symm)
                  · exact (Bool.false_ne_true (hc.symm.trans hd)).elim
        · replace r6 := condF (by first | exact hc | simpa only [se_len, se_ch, List.length_map] using hc) r6
          conv => whnf
          repeat' first | with_reducible rfl | with_reducible exact True.intro | with_reducible assumption | refine parkI ?_ | (refine And.intro ?_ ?_ <;> conv => whnf) | fail
          replace r6 := aftS r6
          obtain ⟨O10, hO10, r10⟩ := r6
          refine LoopW.virt 12 116 4 rfl ?_
          refine LoopW.norm [(2, (LV.ptr 0 0 0)), (4, (LV.ptr 2 0 0)), (6, (I y37.1)), (8, (LV.sl 6 0 (((y41.map EntryT.cells) ++ [[(I a1.Mac), (I a1.Port), (I a1.Seen), (LV.bool a1.Static)]])).length)), (12, (LV.sl 7 0 (([] : (List EntryT)).map EntryT.cells).length)), (99, (LV.ro 1 (y56.1.map iC))), (100, (I (((y56.1.map iC).length : Nat) : Int))), (101, (I ((0 : Nat) : Int)))] 8 [(0, (.row 69 3 [[(LV.ro 1 (a0.Buckets.map (roC 4 EntryT.cells))), (I a0.Slots), (I a0.Age)]])), (2, (.row 69 3 [[LV.nils, (I 0), (I 0)]])), (6, (.row 116 4 (setN ((y41.map EntryT.cells) ++ [[(I a1.Mac), (I a1.Port), (I a1.Seen), (LV.bool a1.Static)]]) (0 + (((((y41.map EntryT.cells).length : Nat) : Int) : Int).toNat)) [(I a1.Mac), (I a1.Port), (I a1.Seen), (LV.bool a1.Static)]))), (7, (.row 116 4 (([] : (List EntryT)).map EntryT.cells)))] ⟨rfl, rfl, rfl, rfl, (by exact congrArg (LV.sl 7 0) (clL _ : 0 = (([] : (List EntryT)).map EntryT.cells).length)), rfl, rfl, rfl, trivial⟩ ⟨⟨rfl, rfl, blT⟩, ⟨⟨rfl, rfl, blT⟩, ⟨⟨rfl, rfl, NLss_bel nlT⟩, ⟨⟨(congrArg (fun q => some (Blk.row 116 4 q)) (smT : ([] : List (List LV)) = (([] : (List EntryT)).map EntryT.cells))), rfl, NLss_bel (NLss_map' _)⟩, trivial⟩⟩⟩⟩ blT rfl ?_
          refine LoopW.forR (fun k10 s10 => [(2, (LV.ptr 0 0 0)), (4, (LV.ptr 2 0 0)), (6, (I y37.1)), (8, (LV.sl 6 0 (((y41.map EntryT.cells) ++ [[(I a1.Mac), (I a1.Port), (I a1.Seen), (LV.bool a1.Static)]])).length)), (12, (LV.sl 7 0 (s10.map EntryT.cells).length)), (99, (LV.ro 1 (y56.1.map iC))), (100, (I (((y56.1.map iC).length : Nat) : Int))), (101, (I ((k10 : Nat) : Int)))]) (fun s10 => ⟨8, [(0, (.row 69 3 [[(LV.ro 1 (a0.Buckets.map (roC 4 EntryT.cells))), (I a0.Slots), (I a0.Age)]])), (2, (.row 69 3 [[LV.nils, (I 0), (I 0)]])), (6, (.row 116 4 (setN ((y41.map EntryT.cells) ++ [[(I a1.Mac), (I a1.Port), (I a1.Seen), (LV.bool a1.Static)]]) (0 + (((((y41.map EntryT.cells).length : Nat) : Int) : Int).toNat)) [(I a1.Mac), (I a1.Port), (I a1.Seen), (LV.bool a1.Static)]))), (7, (.row 116 4 (s10.map EntryT.cells)))]⟩) hO10 (fun hl10 s10 hs10 => ?_) (fun hl10 k10 x10 s10 o10 hk10 hx10 b10 K10 hret10 hbrk10 => ?_)
          · rw [hs10] at r10
            dsimp only [aftM] at r10
            have hd : decide (((y56.1.length : Nat) : Int) < (((y56.1.map iC).length : Nat) : Int)) = false := by rw [decide_eq_false_iff_not]; (try simp only [se_len, se_ch, List.length_map]); omega
            refine LoopW.round TT_ok [0, 1, 2, 3, 4, 5, 6, 7, 8, 9, 10, 11, 12, 14, 29, 30, 31, 39, 60, 78, 86, 99, 100, 101, 102, 1000105, 4000118, 5000083, 8000074, 8000077] ?_
            conv => whnf
            repeat' first | with_reducible rfl | with_reducible exact True.intro | with_reducible assumption | refine parkI ?_ | (refine And.intro ?_ ?_ <;> conv => whnf) | fail
            refine parkE (fun hc => ?_) (fun hc => ?_)
            · exact (Bool.false_ne_true (hd.symm.trans hc)).elim
            · clear hd
              conv => whnf
              replace r10 := bindS r10
              obtain ⟨y94, hy94, r10⟩ := r10
              have c95 : CallW Try.prog 105 [(LV.agg [(LV.ro 1 (a0.Buckets.map (roC 4 EntryT.cells))), (I a0.Slots), (I a0.Age)])] ⟨0, []⟩ (fun lv H' => lv = (LV.agg [(LV.sl 0 0 (y94.Buckets.map (roC 4 EntryT.cells)).length), (I y94.Slots), (I y94.Age)]) ∧ H' = ⟨1, [(0, (.row 111 1 (y94.Buckets.map (roC 4 EntryT.cells))))]⟩) := w_fdb_own_x a0 _ hy94
              replace r10 := grdS r10
              obtain ⟨g96, r10⟩ := r10
              replace g96 : (0 : Int) ≤ y37.1 ∧ y37.1 < (((y94.Buckets.map (roC 4 EntryT.cells)).length : Nat) : Int) := by simpa only [se_len, se_ch, List.length_map] using g96
              replace r10 := bindS r10
              obtain ⟨v97, hv97, r10⟩ := r10
              have i98 : nth (y94.Buckets.map (roC 4 EntryT.cells)) (0 + ((y37.1 : Int).toNat)) = some [(LV.ro 4 (v97.map EntryT.cells))] := by simpa only [se_map, se_len, se_ch, List.length_map, nth_eq, Nat.zero_add, List.getElem?_map] using gixNF (f := (roC 4 EntryT.cells)) hv97
              have e := Option.some.inj r10
              subst e
              repeat' first | with_reducible rfl | with_reducible exact True.intro | with_reducible assumption | exact g96 | (refine CallW.frame (nx2 := 9) (l2 := [(8, (.row 111 1 (y94.Buckets.map (roC 4 EntryT.cells))))]) [] [(0, 8)] c95 rfl rfl trivial rfl rfl ⟨⟨rfl, rfl, .inl ⟨rfl, nlT⟩⟩, rfl, rfl, trivial⟩ ?_; conv => whnf) | (rw [i98]; conv => whnf) | exact clA _ | (refine And.intro ?_ ?_ <;> conv => whnf) | exact clG _ | (refine gand ?_ h; assumption) | exact clN _ | fail
          · unfold fdb_put_c3 at b10
            have hd : decide (((k10 : Nat) : Int) < (((y56.1.map iC).length : Nat) : Int)) = true := by rw [decide_eq_true_eq]; (try simp only [se_len, se_ch, List.length_map] at hk10); (try simp only [se_len, se_ch, List.length_map]); omega
            refine LoopW.round TT_ok [0, 1, 2, 3, 4, 5, 6, 7, 8, 9, 10, 11, 12, 14, 29, 30, 31, 39, 60, 78, 86, 99, 100, 101, 102, 1000105, 4000118, 5000083, 8000074, 8000077] ?_
            conv => whnf
            repeat' first | with_reducible rfl | with_reducible exact True.intro | with_reducible assumption | refine parkI ?_ | (refine And.intro ?_ ?_ <;> conv => whnf) | fail
            refine parkE (fun hc => ?_) (fun hc => ?_)
            · clear hd
              conv => whnf
              replace b10 := grdS b10
              obtain ⟨g90, b10⟩ := b10
              replace g90 : (0 : Int) ≤ x10 ∧ x10 < (((((y41.map EntryT.cells) ++ [[(I a1.Mac), (I a1.Port), (I a1.Seen), (LV.bool a1.Static)]])).length : Nat) : Int) := by simpa only [se_len, se_ch, List.length_map] using g90
              replace b10 := bindS b10
              obtain ⟨v91, hv91, b10⟩ := b10
              have i92 : nth (setN ((y41.map EntryT.cells) ++ [[(I a1.Mac), (I a1.Port), (I a1.Seen), (LV.bool a1.Static)]]) (0 + (((((y41.map EntryT.cells).length : Nat) : Int) : Int).toNat)) [(I a1.Mac), (I a1.Port), (I a1.Seen), (LV.bool a1.Static)]) (0 + ((x10 : Int).toNat)) = some [(I v91.Mac), (I v91.Port), (I v91.Seen), (LV.bool v91.Static)] := by simpa only [se_map, se_len, se_ch, List.length_map, nth_eq, Nat.zero_add, List.getElem?_map] using gixNF (f := EntryT.cells) hv91
              replace b10 := grdS b10
              obtain ⟨g93, b10⟩ := b10
              replace g93 : fits (((s10.map EntryT.cells) ++ [[(I v91.Mac), (I v91.Port), (I v91.Seen), (LV.bool v91.Static)]])).length 32 := by simpa only [se_len, se_ch, List.length_map] using g93
              repeat' first | with_reducible rfl | with_reducible exact True.intro | with_reducible assumption | refine parkI ?_ | (refine ⟨_, (kixF (f := iC) hx10), ?_⟩; conv => whnf) | exact g90 | exact g93 | (first | (rw [i92]; conv => whnf) | (erw [i92]; conv => whnf)) | exact clA _ | (refine And.intro ?_ ?_ <;> conv => whnf) | exact clN _ | fail
              have e := Option.some.inj b10
              refine LoopW.ren [(0, 0), (2, 2), (6, 6), (9, 7)] [(2, (LV.ptr 0 0 0)), (4, (LV.ptr 2 0 0)), (6, (I y37.1)), (8, (LV.sl 6 0 (((y41.map EntryT.cells) ++ [[(I a1.Mac), (I a1.Port), (I a1.Seen), (LV.bool a1.Static)]])).length)), (12, (LV.sl 7 0 ((s10 ++ ([v91] : (List EntryT))).map EntryT.cells).length)), (99, (LV.ro 1 (y56.1.map iC))), (100, (I (((y56.1.map iC).length : Nat) : Int))), (101, (I ((k10 + 1 : Nat) : Int)))] 8 [(0, (.row 69 3 [[(LV.ro 1 (a0.Buckets.map (roC 4 EntryT.cells))), (I a0.Slots), (I a0.Age)]])), (2, (.row 69 3 [[LV.nils, (I 0), (I 0)]])), (6, (.row 116 4 (setN ((y41.map EntryT.cells) ++ [[(I a1.Mac), (I a1.Port), (I a1.Seen), (LV.bool a1.Static)]]) (0 + (((((y41.map EntryT.cells).length : Nat) : Int) : Int).toNat)) [(I a1.Mac), (I a1.Port), (I a1.Seen), (LV.bool a1.Static)]))), (7, (.row 116 4 ((s10 ++ ([v91] : (List EntryT))).map EntryT.cells)))] rfl ⟨rfl, rfl, rfl, rfl, (by exact congrArg (LV.sl 7 0) (clL _ : (((s10.map EntryT.cells) ++ [[(I v91.Mac), (I v91.Port), (I v91.Seen), (LV.bool v91.Static)]])).length = ((s10 ++ ([v91] : (List EntryT))).map EntryT.cells).length)), rfl, rfl, (congrArg (LV.int .i64) (w64_nat _ (by omega))), trivial⟩ ⟨⟨rfl, rfl, .inl ⟨rfl, nlT⟩⟩, rfl, rfl, ⟨⟨rfl, rfl, .inl ⟨rfl, nlT⟩⟩, rfl, rfl, ⟨⟨rfl, rfl, .inl ⟨rfl, nlT⟩⟩, rfl, rfl, ⟨⟨rfl, rfl, .inl ⟨(smT : (((s10.map EntryT.cells) ++ [[(I v91.Mac), (I v91.Port), (I v91.Seen), (LV.bool v91.Static)]]) : List (List LV)) = ((s10 ++ ([v91] : (List EntryT))).map EntryT.cells)), nlT⟩⟩, rfl, rfl, trivial⟩⟩⟩⟩ rfl (K10 _ e.symm)
            · exact (Bool.false_ne_true (hc.symm.trans hd)).elim
      · replace r6 := condF hc r6
        conv => whnf
        replace r6 := grdS r6
        obtain ⟨g99, r6⟩ := r6
        replace g99 : (0 : Int) ≤ y37.2 ∧ y37.2 < (((y41.map EntryT.cells).length : Nat) : Int) := by simpa only [se_len, se_ch, List.length_map] using g99
        replace r6 := bindS r6
        obtain ⟨v100, hv100, r6⟩ := r6
        have i101 : nth (y41.map EntryT.cells) (0 + ((y37.2 : Int).toNat)) = some [(I v100.Mac), (I v100.Port), (I v100.Seen), (LV.bool v100.Static)] := by simpa only [se_map, se_len, se_ch, List.length_map, nth_eq, Nat.zero_add, List.getElem?_map] using gixNF (f := EntryT.cells) hv100
        replace r6 := bindS r6
        obtain ⟨y102, hy102, r6⟩ := r6
        have c103 := c_lru_Use s6 y37.2 _ hy102
        repeat' first | with_reducible rfl | with_reducible exact True.intro | with_reducible assumption | refine parkI ?_ | exact g99 | (refine CallP.use c103 ?_; conv => whnf) | (rw [i101]; conv => whnf) | exact clA _ | (refine And.intro ?_ ?_ <;> conv => whnf) | exact clN _ | fail
        refine parkE (fun hc => ?_) (fun hc => ?_)
        · replace r6 := condT (by first | exact hc | simpa only [se_len, se_ch, List.length_map] using hc) r6
          conv => whnf
          replace r6 := grdS r6
          obtain ⟨g104, r6⟩ := r6
          replace g104 : (0 : Int) ≤ 1 ∧ 1 ≤ (((y102.1.map iC).length : Nat) : Int) := by simpa only [se_len, se_ch, List.length_map] using g104
          replace r6 := bindS r6
          obtain ⟨y105, hy105, r6⟩ := r6
          have c106 : CallF Try.prog 110 [(LV.ro 1 ((y102.1.map iC).drop (1 : Int).toNat))] 3 1 (y105.map iC) := by first | exact cf_slices_Clone_int (y102.1.drop (1 : Int).toNat) _ hy105 | (simpa only [se_map, se_byL, se_len, se_ch, List.length_map] using cf_slices_Clone_int (y102.1.drop (1 : Int).toNat) _ hy105)
          repeat' first | with_reducible rfl | with_reducible exact True.intro | with_reducible assumption | refine parkI ?_ | exact g104 | (refine CallW.done (CallF.at c106 nlA (NLss_map' _)) ?_; conv => whnf) | (refine ⟨_, _, CallF.at c106 nlA (NLss_map' _), ?_⟩; conv => whnf) | (refine And.intro ?_ ?_ <;> conv => whnf) | fail
          replace r6 := aftS r6
          obtain ⟨O13, hO13, r13⟩ := r6
          refine LoopW.norm [(2, (LV.ptr 0 0 0)), (4, (LV.ptr 2 0 0)), (6, (I y37.1)), (8, (LV.sl 3 0 (y41.map EntryT.cells).length)), (9, (LV.ro 1 (y102.1.map iC))), (11, (LV.sl 5 0 (y105.map iC).length))] 6 [(0, (.row 69 3 [[(LV.ro 1 (a0.Buckets.map (roC 4 EntryT.cells))), (I a0.Slots), (I a0.Age)]])), (2, (.row 69 3 [[LV.nils, (I 0), (I 0)]])), (3, (.row 116 4 (setN (y41.map EntryT.cells) (0 + ((y37.2 : Int).toNat)) [(I a1.Mac), (I a1.Port), (I a1.Seen), (LV.bool a1.Static)]))), (5, (.row 3 1 (y105.map iC)))] ⟨rfl, rfl, rfl, rfl, rfl, rfl, trivial⟩ ⟨⟨rfl, rfl, blT⟩, ⟨⟨rfl, rfl, blT⟩, ⟨⟨rfl, rfl, NLss_bel nlT⟩, ⟨⟨rfl, rfl, NLss_bel (NLss_map' _)⟩, trivial⟩⟩⟩⟩ blT rfl ?_
          refine LoopW.forF (fun s13 => [(2, (LV.ptr 0 0 0)), (4, (LV.ptr 2 0 0)), (6, (I y37.1)), (8, (LV.sl 3 0 (y41.map EntryT.cells).length)), (9, (LV.ro 1 (y102.1.map iC))), (11, (LV.sl 5 0 (s13.map iC).length))]) (fun s13 => ⟨6, [(0, (.row 69 3 [[(LV.ro 1 (a0.Buckets.map (roC 4 EntryT.cells))), (I a0.Slots), (I a0.Age)]])), (2, (.row 69 3 [[LV.nils, (I 0), (I 0)]])), (3, (.row 116 4 (setN (y41.map EntryT.cells) (0 + ((y37.2 : Int).toNat)) [(I a1.Mac), (I a1.Port), (I a1.Seen), (LV.bool a1.Static)]))), (5, (.row 3 1 (s13.map iC)))]⟩) hO13 (fun s13 o13 b13 K13 hret13 hbrk13 => ?_)
          unfold fdb_put_c4 at b13
          refine LoopW.round TT_ok [0, 1, 2, 3, 4, 5, 6, 7, 8, 9, 10, 11, 12, 14, 29, 30, 31, 39, 60, 78, 86, 99, 100, 101, 102, 1000105, 4000118, 5000083, 8000074, 8000077] ?_
          conv => whnf
          replace b13 := grdS b13
          obtain ⟨g107, b13⟩ := b13
          replace g107 : (decide (0 < (((s13.map iC).length : Nat) : Int))) = true → (0 : Int) ≤ (IntKind.i64.wrap ((((s13.map iC).length : Nat) : Int) - 1)) ∧ (IntKind.i64.wrap ((((s13.map iC).length : Nat) : Int) - 1)) < (((s13.map iC).length : Nat) : Int) := by simpa only [se_len, se_ch, List.length_map] using g107
          repeat' first | with_reducible rfl | with_reducible exact True.intro | with_reducible assumption | refine parkI ?_ | exact g107 | exact clA _ | (refine And.intro ?_ ?_ <;> conv => whnf) | exact clG _ | (refine gand ?_ h; assumption) | fail
          refine parkE (fun hg4_ => ?_) (fun hg4_ => ?_)
          · replace b13 := condT (by first | exact hg4_ | simpa only [se_len, se_ch, List.length_map] using hg4_) b13
            conv => whnf
            replace b13 := bindS b13
            obtain ⟨v108, hv108, b13⟩ := b13
            have i109 : nth (s13.map iC) (0 + (((IntKind.i64.wrap ((((s13.map iC).length : Nat) : Int) - 1)) : Int).toNat)) = some [(I v108)] := by simpa only [se_map, se_len, se_ch, List.length_map, nth_eq, Nat.zero_add, List.getElem?_map] using gixNF (f := iC) hv108
            replace b13 := grdS b13
            obtain ⟨g110, b13⟩ := b13
            replace g110 : (decide (0 < (((s13.map iC).length : Nat) : Int))) = true → (0 : Int) ≤ v108 ∧ v108 < (((y41.map EntryT.cells).length : Nat) : Int) := by simpa only [se_len, se_ch, List.length_map] using g110
            replace b13 := bindS b13
            obtain ⟨v111, hv111, b13⟩ := b13
            have i112 : nth (setN (y41.map EntryT.cells) (0 + ((y37.2 : Int).toNat)) [(I a1.Mac), (I a1.Port), (I a1.Seen), (LV.bool a1.Static)]) (0 + ((v108 : Int).toNat)) = some [(I v111.Mac), (I v111.Port), (I v111.Seen), (LV.bool v111.Static)] := by simpa only [se_map, se_len, se_ch, List.length_map, nth_eq, Nat.zero_add, List.getElem?_map] using gixNF (f := EntryT.cells) hv111
            repeat' first | with_reducible rfl | with_reducible exact True.intro | with_reducible assumption | ((with_reducible refine parkX hg4_ ?_); conv => whnf) | refine parkI ?_ | exact g110 | (rw [i109]; conv => whnf) | (first | (rw [i112]; conv => whnf) | (erw [i112]; conv => whnf)) | exact clA _ | (refine And.intro ?_ ?_ <;> conv => whnf) | exact clG _ | (refine gand ?_ h; assumption) | (intro hq_; conv => whnf) | fail
            refine parkE (fun hc => ?_) (fun hc => ?_)
            · replace b13 := condT (by first | exact hc | simpa only [se_len, se_ch, List.length_map] using hc) b13
              conv => whnf
              replace b13 := grdS b13
              obtain ⟨g113, b13⟩ := b13
              replace g113 : (0 : Int) ≤ (IntKind.i64.wrap ((((s13.map iC).length : Nat) : Int) - 1)) ∧ (IntKind.i64.wrap ((((s13.map iC).length : Nat) : Int) - 1)) ≤ (((s13.map iC).length : Nat) : Int) := by simpa only [se_len, se_ch, List.length_map] using g113
              repeat' first | with_reducible rfl | with_reducible exact True.intro | with_reducible assumption | ((with_reducible refine parkX hg4_ ?_); conv => whnf) | refine parkI ?_ | exact g113 | exact clA _ | (refine And.intro ?_ ?_ <;> conv => whnf) | exact clN _ | (intro hq_; conv => whnf) | fail
              have e := Option.some.inj b13
              refine LoopW.norm [(2, (LV.ptr 0 0 0)), (4, (LV.ptr 2 0 0)), (6, (I y37.1)), (8, (LV.sl 3 0 (y41.map EntryT.cells).length)), (9, (LV.ro 1 (y102.1.map iC))), (11, (LV.sl 5 0 ((s13.take ((IntKind.i64.wrap (((s13.length : Nat) : Int) - 1)) : Int).toNat).map iC).length))] 6 [(0, (.row 69 3 [[(LV.ro 1 (a0.Buckets.map (roC 4 EntryT.cells))), (I a0.Slots), (I a0.Age)]])), (2, (.row 69 3 [[LV.nils, (I 0), (I 0)]])), (3, (.row 116 4 (setN (y41.map EntryT.cells) (0 + ((y37.2 : Int).toNat)) [(I a1.Mac), (I a1.Port), (I a1.Seen), (LV.bool a1.Static)]))), (5, (.row 3 1 ((s13.take ((IntKind.i64.wrap (((s13.length : Nat) : Int) - 1)) : Int).toNat).map iC)))] ⟨rfl, rfl, rfl, rfl, rfl, (by exact congrArg (LV.sl 5 0) (clL _ : ((IntKind.i64.wrap ((((s13.map iC).length : Nat) : Int) - 1)) : Int).toNat = ((s13.take ((IntKind.i64.wrap (((s13.length : Nat) : Int) - 1)) : Int).toNat).map iC).length)), trivial⟩ ⟨⟨rfl, rfl, blT⟩, ⟨⟨rfl, rfl, blT⟩, ⟨⟨rfl, rfl, NLss_bel nlT⟩, ⟨⟨(by first | exact (congrArg (fun q => some (Blk.row 3 1 q)) (smT : (((s13.map iC).take ((IntKind.i64.wrap ((((s13.map iC).length : Nat) : Int) - 1)) : Int).toNat) : List (List LV)) = ((s13.take ((IntKind.i64.wrap (((s13.length : Nat) : Int) - 1)) : Int).toNat).map iC))) | exact Eq.trans (b := some (Blk.row 3 1 ((s13.map iC).take ((IntKind.i64.wrap ((((s13.map iC).length : Nat) : Int) - 1)) : Int).toNat))) rfl (congrArg (fun q => some (Blk.row 3 1 q)) (smT : (((s13.map iC).take ((IntKind.i64.wrap ((((s13.map iC).length : Nat) : Int) - 1)) : Int).toNat) : List (List LV)) = ((s13.take ((IntKind.i64.wrap (((s13.length : Nat) : Int) - 1)) : Int).toNat).map iC)))), rfl, NLss_bel (NLss_map' _)⟩, trivial⟩⟩⟩⟩ blT rfl (K13 _ e.symm)
            · replace b13 := condF (by first | exact hc | simpa only [se_len, se_ch, List.length_map] using hc) b13
              conv => whnf
              have e := Option.some.inj b13
              replace e := hbrk13 _ e.symm
              rw [e] at r13
              dsimp only [aftM] at r13
              repeat' first | with_reducible rfl | with_reducible exact True.intro | with_reducible assumption | ((with_reducible refine parkX hg4_ ?_); conv => whnf) | refine parkI ?_ | (refine And.intro ?_ ?_ <;> conv => whnf) | fail
              refine parkE (fun hc => ?_) (fun hc => ?_)
              · replace r13 := condT (by first | exact hc | simpa only [se_len, se_ch, List.length_map] using hc) r13
                conv => whnf
                have e := Option.some.inj r13
                subst e
                repeat' first | with_reducible rfl | with_reducible exact True.intro | with_reducible assumption | ((with_reducible refine parkX hg4_ ?_); conv => whnf) | exact clA _ | (refine And.intro ?_ ?_ <;> conv => whnf) | exact clG _ | (refine gand ?_ h; assumption) | exact clN _ | fail
              · replace r13 := condF (by first | exact hc | simpa only [se_len, se_ch, List.length_map] using hc) r13
                conv => whnf
                replace r13 := grdS r13
                obtain ⟨g114, r13⟩ := r13
                replace g114 : (0 : Int) ≤ (IntKind.i64.wrap ((((s13.map iC).length : Nat) : Int) - 1)) ∧ (IntKind.i64.wrap ((((s13.map iC).length : Nat) : Int) - 1)) < (((s13.map iC).length : Nat) : Int) := by simpa only [se_len, se_ch, List.length_map] using g114
                replace r13 := bindS r13
                obtain ⟨v115, hv115, r13⟩ := r13
                have i116 : nth (s13.map iC) (0 + (((IntKind.i64.wrap ((((s13.map iC).length : Nat) : Int) - 1)) : Int).toNat)) = some [(I v115)] := by simpa only [se_map, se_len, se_ch, List.length_map, nth_eq, Nat.zero_add, List.getElem?_map] using gixNF (f := iC) hv115
                replace r13 := bindS r13
                obtain ⟨y117, hy117, r13⟩ := r13
                have c118 := c_lru_Drop y102.1 v115 _ hy117
                repeat' first | with_reducible rfl | with_reducible exact True.intro | with_reducible assumption | ((with_reducible refine parkX hg4_ ?_); conv => whnf) | refine parkI ?_ | exact g114 | (refine CallP.use c118 ?_; conv => whnf) | (rw [i116]; conv => whnf) | (refine And.intro ?_ ?_ <;> conv => whnf) | fail
                replace r13 := aftS r13
                obtain ⟨O10, hO10, r10⟩ := r13
                refine LoopW.virt 12 116 4 rfl ?_
                refine LoopW.norm [(2, (LV.ptr 0 0 0)), (4, (LV.ptr 2 0 0)), (6, (I y37.1)), (8, (LV.sl 3 0 (y41.map EntryT.cells).length)), (12, (LV.sl 6 0 (([] : (List EntryT)).map EntryT.cells).length)), (99, (LV.ro 1 (y117.1.map iC))), (100, (I (((y117.1.map iC).length : Nat) : Int))), (101, (I ((0 : Nat) : Int)))] 7 [(0, (.row 69 3 [[(LV.ro 1 (a0.Buckets.map (roC 4 EntryT.cells))), (I a0.Slots), (I a0.Age)]])), (2, (.row 69 3 [[LV.nils, (I 0), (I 0)]])), (3, (.row 116 4 (setN (y41.map EntryT.cells) (0 + ((y37.2 : Int).toNat)) [(I a1.Mac), (I a1.Port), (I a1.Seen), (LV.bool a1.Static)]))), (6, (.row 116 4 (([] : (List EntryT)).map EntryT.cells)))] ⟨rfl, rfl, rfl, rfl, (by exact congrArg (LV.sl 6 0) (clL _ : 0 = (([] : (List EntryT)).map EntryT.cells).length)), rfl, rfl, rfl, trivial⟩ ⟨⟨rfl, rfl, blT⟩, ⟨⟨rfl, rfl, blT⟩, ⟨⟨rfl, rfl, NLss_bel nlT⟩, ⟨⟨(congrArg (fun q => some (Blk.row 116 4 q)) (smT : ([] : List (List LV)) = (([] : (List EntryT)).map EntryT.cells))), rfl, NLss_bel (NLss_map' _)⟩, trivial⟩⟩⟩⟩ blT rfl ?_
                refine LoopW.forR (fun k10 s10 => [(2, (LV.ptr 0 0 0)), (4, (LV.ptr 2 0 0)), (6, (I y37.1)), (8, (LV.sl 3 0 (y41.map EntryT.cells).length)), (12, (LV.sl 6 0 (s10.map EntryT.cells).length)), (99, (LV.ro 1 (y117.1.map iC))), (100, (I (((y117.1.map iC).length : Nat) : Int))), (101, (I ((k10 : Nat) : Int)))]) (fun s10 => ⟨7, [(0, (.row 69 3 [[(LV.ro 1 (a0.Buckets.map (roC 4 EntryT.cells))), (I a0.Slots), (I a0.Age)]])), (2, (.row 69 3 [[LV.nils, (I 0), (I 0)]])), (3, (.row 116 4 (setN (y41.map EntryT.cells) (0 + ((y37.2 : Int).toNat)) [(I a1.Mac), (I a1.Port), (I a1.Seen), (LV.bool a1.Static)]))), (6, (.row 116 4 (s10.map EntryT.cells)))]⟩) hO10 (fun hl10 s10 hs10 => ?_) (fun hl10 k10 x10 s10 o10 hk10 hx10 b10 K10 hret10 hbrk10 => ?_)
                · rw [hs10] at r10
                  dsimp only [aftM] at r10
                  have hd : decide (((y117.1.length : Nat) : Int) < (((y117.1.map iC).length : Nat) : Int)) = false := by rw [decide_eq_false_iff_not]; (try simp only [se_len, se_ch, List.length_map]); omega
                  refine LoopW.round TT_ok [0, 1, 2, 3, 4, 5, 6, 7, 8, 9, 10, 11, 12, 14, 29, 30, 31, 39, 60, 78, 86, 99, 100, 101, 102, 1000105, 4000118, 5000083, 8000074, 8000077] ?_
                  conv => whnf
                  repeat' first | with_reducible rfl | with_reducible exact True.intro | with_reducible assumption | refine parkI ?_ | (refine And.intro ?_ ?_ <;> conv => whnf) | fail
                  refine parkE (fun hc => ?_) (fun hc => ?_)
                  · exact (Bool.false_ne_true (hd.symm.trans hc)).elim
                  · clear hd
                    conv => whnf
                    replace r10 := bindS r10
                    obtain ⟨y123, hy123, r10⟩ := r10
                    have c124 : CallW Try.prog 105 [(LV.agg [(LV.ro 1 (a0.Buckets.map (roC 4 EntryT.cells))), (I a0.Slots), (I a0.Age)])] ⟨0, []⟩ (fun lv H' => lv = (LV.agg [(LV.sl 0 0 (y123.Buckets.map (roC 4 EntryT.cells)).length), (I y123.Slots), (I y123.Age)]) ∧ H' = ⟨1, [(0, (.row 111 1 (y123.Buckets.map (roC 4 EntryT.cells))))]⟩) := w_fdb_own_x a0 _ hy123
                    replace r10 := grdS r10
                    obtain ⟨g125, r10⟩ := r10
                    replace g125 : (0 : Int) ≤ y37.1 ∧ y37.1 < (((y123.Buckets.map (roC 4 EntryT.cells)).length : Nat) : Int) := by simpa only [se_len, se_ch, List.length_map] using g125
                    replace r10 := bindS r10
                    obtain ⟨v126, hv126, r10⟩ := r10
                    have i127 : nth (y123.Buckets.map (roC 4 EntryT.cells)) (0 + ((y37.1 : Int).toNat)) = some [(LV.ro 4 (v126.map EntryT.cells))] := by simpa only [se_map, se_len, se_ch, List.length_map, nth_eq, Nat.zero_add, List.getElem?_map] using gixNF (f := (roC 4 EntryT.cells)) hv126
                    have e := Option.some.inj r10
                    subst e
                    repeat' first | with_reducible rfl | with_reducible exact True.intro | with_reducible assumption | exact g125 | (refine CallW.frame (nx2 := 8) (l2 := [(7, (.row 111 1 (y123.Buckets.map (roC 4 EntryT.cells))))]) [] [(0, 7)] c124 rfl rfl trivial rfl rfl ⟨⟨rfl, rfl, .inl ⟨rfl, nlT⟩⟩, rfl, rfl, trivial⟩ ?_; conv => whnf) | (rw [i127]; conv => whnf) | exact clA _ | (refine And.intro ?_ ?_ <;> conv => whnf) | exact clG _ | (refine gand ?_ h; assumption) | exact clN _ | fail
                · unfold fdb_put_c3 at b10
                  have hd : decide (((k10 : Nat) : Int) < (((y117.1.map iC).length : Nat) : Int)) = true := by rw [decide_eq_true_eq]; (try simp only [se_len, se_ch, List.length_map] at hk10); (try simp only [se_len, se_ch, List.length_map]); omega
                  refine LoopW.round TT_ok [0, 1, 2, 3, 4, 5, 6, 7, 8, 9, 10, 11, 12, 14, 29, 30, 31, 39, 60, 78, 86, 99, 100, 101, 102, 1000105, 4000118, 5000083, 8000074, 8000077] ?_
                  conv => whnf
                  repeat' first | with_reducible rfl | with_reducible exact True.intro | with_reducible assumption | refine parkI ?_ | (refine And.intro ?_ ?_ <;> conv => whnf) | fail
                  refine parkE (fun hc => ?_) (fun hc => ?_)
                  · clear hd
                    conv => whnf
                    replace b10 := grdS b10
                    obtain ⟨g119, b10⟩ := b10
                    replace g119 : (0 : Int) ≤ x10 ∧ x10 < (((y41.map EntryT.cells).length : Nat) : Int) := by simpa only [se_len, se_ch, List.length_map] using g119
                    replace b10 := bindS b10
                    obtain ⟨v120, hv120, b10⟩ := b10
                    have i121 : nth (setN (y41.map EntryT.cells) (0 + ((y37.2 : Int).toNat)) [(I a1.Mac), (I a1.Port), (I a1.Seen), (LV.bool a1.Static)]) (0 + ((x10 : Int).toNat)) = some [(I v120.Mac), (I v120.Port), (I v120.Seen), (LV.bool v120.Static)] := by simpa only [se_map, se_len, se_ch, List.length_map, nth_eq, Nat.zero_add, List.getElem?_map] using gixNF (f := EntryT.cells) hv120
                    replace b10 := grdS b10
                    obtain ⟨g122, b10⟩ := b10
                    replace g122 : fits (((s10.map EntryT.cells) ++ [[(I v120.Mac), (I v120.Port), (I v120.Seen), (LV.bool v120.Static)]])).length 32 := by simpa only [se_len, se_ch, List.length_map] using g122
                    repeat' first | with_reducible rfl | with_reducible exact True.intro | with_reducible assumption | refine parkI ?_ | (refine ⟨_, (kixF (f := iC) hx10), ?_⟩; conv => whnf) | exact g119 | exact g122 | (first | (rw [i121]; conv => whnf) | (erw [i121]; conv => whnf)) | exact clA _ | (refine And.intro ?_ ?_ <;> conv => whnf) | exact clN _ | fail
                    have e := Option.some.inj b10
                    refine LoopW.ren [(0, 0), (2, 2), (3, 3), (8, 6)] [(2, (LV.ptr 0 0 0)), (4, (LV.ptr 2 0 0)), (6, (I y37.1)), (8, (LV.sl 3 0 (y41.map EntryT.cells).length)), (12, (LV.sl 6 0 ((s10 ++ ([v120] : (List EntryT))).map EntryT.cells).length)), (99, (LV.ro 1 (y117.1.map iC))), (100, (I (((y117.1.map iC).length : Nat) : Int))), (101, (I ((k10 + 1 : Nat) : Int)))] 7 [(0, (.row 69 3 [[(LV.ro 1 (a0.Buckets.map (roC 4 EntryT.cells))), (I a0.Slots), (I a0.Age)]])), (2, (.row 69 3 [[LV.nils, (I 0), (I 0)]])), (3, (.row 116 4 (setN (y41.map EntryT.cells) (0 + ((y37.2 : Int).toNat)) [(I a1.Mac), (I a1.Port), (I a1.Seen), (LV.bool a1.Static)]))), (6, (.row 116 4 ((s10 ++ ([v120] : (List EntryT))).map EntryT.cells)))] rfl ⟨rfl, rfl, rfl, rfl, (by exact congrArg (LV.sl 6 0) (clL _ : (((s10.map EntryT.cells) ++ [[(I v120.Mac), (I v120.Port), (I v120.Seen), (LV.bool v120.Static)]])).length = ((s10 ++ ([v120] : (List EntryT))).map EntryT.cells).length)), rfl, rfl, (congrArg (LV.int .i64) (w64_nat _ (by omega))), trivial⟩ ⟨⟨rfl, rfl, .inl ⟨rfl, nlT⟩⟩, rfl, rfl, ⟨⟨rfl, rfl, .inl ⟨rfl, nlT⟩⟩, rfl, rfl, ⟨⟨rfl, rfl, .inl ⟨rfl, nlT⟩⟩, rfl, rfl, ⟨⟨rfl, rfl, .inl ⟨(smT : (((s10.map EntryT.cells) ++ [[(I v120.Mac), (I v120.Port), (I v120.Seen), (LV.bool v120.Static)]]) : List (List LV)) = ((s10 ++ ([v120] : (List EntryT))).map EntryT.cells)), nlT⟩⟩, rfl, rfl, trivial⟩⟩⟩⟩ rfl (K10 _ e.symm)
                  · exact (Bool.false_ne_true (hc.symm.trans hd)).elim
          · replace b13 := condF (by first | exact hg4_ | simpa only [se_len, se_ch, List.length_map] using hg4_) b13
            conv => whnf
            repeat' first | with_reducible rfl | with_reducible exact True.intro | with_reducible assumption | refine parkI ?_ | exact (by first | exact hg4_ | simpa using hg4_ : _ = false) | (refine ⟨?_, True.intro⟩; first | exact hg4_ | (simpa using hg4_; done)) | exact clA _ | (refine And.intro ?_ ?_ <;> conv => whnf) | exact clG _ | (refine gand ?_ h; assumption) | (intro hq_; conv => whnf) | fail
            refine parkE (fun hc => ?_) (fun hc => ?_)
            · exact (Bool.false_ne_true (((rfl : false = false)).symm.trans hc)).elim
            · conv => whnf
              have e := Option.some.inj b13
              replace e := hbrk13 _ e.symm
              rw [e] at r13
              dsimp only [aftM] at r13
              repeat' first | with_reducible rfl | with_reducible exact True.intro | with_reducible assumption | refine parkI ?_ | (refine And.intro ?_ ?_ <;> conv => whnf) | fail
              refine parkE (fun hc => ?_) (fun hc => ?_)
              · replace r13 := condT (by first | exact hc | simpa only [se_len, se_ch, List.length_map] using hc) r13
                conv => whnf
                have e := Option.some.inj r13
                subst e
                repeat' first | with_reducible rfl | with_reducible exact True.intro | with_reducible assumption | exact clA _ | (refine And.intro ?_ ?_ <;> conv => whnf) | exact clG _ | (refine gand ?_ h; assumption) | exact clN _ | fail
              · replace r13 := condF (by first | exact hc | simpa only [se_len, se_ch, List.length_map] using hc) r13
                conv => whnf
                replace r13 := grdS r13
                obtain ⟨g108, r13⟩ := r13
                replace g108 : (0 : Int) ≤ (IntKind.i64.wrap ((((s13.map iC).length : Nat) : Int) - 1)) ∧ (IntKind.i64.wrap ((((s13.map iC).length : Nat) : Int) - 1)) < (((s13.map iC).length : Nat) : Int) := by simpa only [se_len, se_ch, List.length_map] using g108
                replace r13 := bindS r13
                obtain ⟨v109, hv109, r13⟩ := r13
                have i110 : nth (s13.map iC) (0 + (((IntKind.i64.wrap ((((s13.map iC).length : Nat) : Int) - 1)) : Int).toNat)) = some [(I v109)] := by simpa only [se_map, se_len, se_ch, List.length_map, nth_eq, Nat.zero_add, List.getElem?_map] using gixNF (f := iC) hv109
                replace r13 := bindS r13
                obtain ⟨y111, hy111, r13⟩ := r13
                have c112 := c_lru_Drop y102.1 v109 _ hy111
                repeat' first | with_reducible rfl | with_reducible exact True.intro | with_reducible assumption | refine parkI ?_ | exact g108 | (refine CallP.use c112 ?_; conv => whnf) | (rw [i110]; conv => whnf) | (refine And.intro ?_ ?_ <;> conv => whnf) | fail
                replace r13 := aftS r13
                obtain ⟨O10, hO10, r10⟩ := r13
                refine LoopW.virt 12 116 4 rfl ?_
                refine LoopW.norm [(2, (LV.ptr 0 0 0)), (4, (LV.ptr 2 0 0)), (6, (I y37.1)), (8, (LV.sl 3 0 (y41.map EntryT.cells).length)), (12, (LV.sl 6 0 (([] : (List EntryT)).map EntryT.cells).length)), (99, (LV.ro 1 (y111.1.map iC))), (100, (I (((y111.1.map iC).length : Nat) : Int))), (101, (I ((0 : Nat) : Int)))] 7 [(0, (.row 69 3 [[(LV.ro 1 (a0.Buckets.map (roC 4 EntryT.cells))), (I a0.Slots), (I a0.Age)]])), (2, (.row 69 3 [[LV.nils, (I 0), (I 0)]])), (3, (.row 116 4 (setN (y41.map EntryT.cells) (0 + ((y37.2 : Int).toNat)) [(I a1.Mac), (I a1.Port), (I a1.Seen), (LV.bool a1.Static)]))), (6, (.row 116 4 (([] : (List EntryT)).map EntryT.cells)))] ⟨rfl, rfl, rfl, rfl, (by exact congrArg (LV.sl 6 0) (clL _ : 0 = (([] : (List EntryT)).map EntryT.cells).length)), rfl, rfl, rfl, trivial⟩ ⟨⟨rfl, rfl, blT⟩, ⟨⟨rfl, rfl, blT⟩, ⟨⟨rfl, rfl, NLss_bel nlT⟩, ⟨⟨(congrArg (fun q => some (Blk.row 116 4 q)) (smT : ([] : List (List LV)) = (([] : (List EntryT)).map EntryT.cells))), rfl, NLss_bel (NLss_map' _)⟩, trivial⟩⟩⟩⟩ blT rfl ?_
                refine LoopW.forR (fun k10 s10 => [(2, (LV.ptr 0 0 0)), (4, (LV.ptr 2 0 0)), (6, (I y37.1)), (8, (LV.sl 3 0 (y41.map EntryT.cells).length)), (12, (LV.sl 6 0 (s10.map EntryT.cells).length)), (99, (LV.ro 1 (y111.1.map iC))), (100, (I (((y111.1.map iC).length : Nat) : Int))), (101, (I ((k10 : Nat) : Int)))]) (fun s10 => ⟨7, [(0, (.row 69 3 [[(LV.ro 1 (a0.Buckets.map (roC 4 EntryT.cells))), (I a0.Slots), (I a0.Age)]])), (2, (.row 69 3 [[LV.nils, (I 0), (I 0)]])), (3, (.row 116 4 (setN (y41.map EntryT.cells) (0 + ((y37.2 : Int).toNat)) [(I a1.Mac), (I a1.Port), (I a1.Seen), (LV.bool a1.Static)]))), (6, (.row 116 4 (s10.map EntryT.cells)))]⟩) hO10 (fun hl10 s10 hs10 => ?_) (fun hl10 k10 x10 s10 o10 hk10 hx10 b10 K10 hret10 hbrk10 => ?_)
                · rw [hs10] at r10
                  dsimp only [aftM] at r10
                  have hd : decide (((y111.1.length : Nat) : Int) < (((y111.1.map iC).length : Nat) : Int)) = false := by rw [decide_eq_false_iff_not]; (try simp only [se_len, se_ch, List.length_map]); omega
                  refine LoopW.round TT_ok [0, 1, 2, 3, 4, 5, 6, 7, 8, 9, 10, 11, 12, 14, 29, 30, 31, 39, 60, 78, 86, 99, 100, 101, 102, 1000105, 4000118, 5000083, 8000074, 8000077] ?_
                  conv => whnf
                  repeat' first | with_reducible rfl | with_reducible exact True.intro | with_reducible assumption | refine parkI ?_ | (refine And.intro ?_ ?_ <;> conv => whnf) | fail
                  refine parkE (fun hc => ?_) (fun hc => ?_)
                  · exact (Bool.false_ne_true (hd.symm.trans hc)).elim
                  · clear hd
                    conv => whnf
                    replace r10 := bindS r10
                    obtain ⟨y117, hy117, r10⟩ := r10
                    have c118 : CallW Try.prog 105 [(LV.agg [(LV.ro 1 (a0.Buckets.map (roC 4 EntryT.cells))), (I a0.Slots), (I a0.Age)])] ⟨0, []⟩ (fun lv H' => lv = (LV.agg [(LV.sl 0 0 (y117.Buckets.map (roC 4 EntryT.cells)).length), (I y117.Slots), (I y117.Age)]) ∧ H' = ⟨1, [(0, (.row 111 1 (y117.Buckets.map (roC 4 EntryT.cells))))]⟩) := w_fdb_own_x a0 _ hy117
                    replace r10 := grdS r10
                    obtain ⟨g119, r10⟩ := r10
                    replace g119 : (0 : Int) ≤ y37.1 ∧ y37.1 < (((y117.Buckets.map (roC 4 EntryT.cells)).length : Nat) : Int) := by simpa only [se_len, se_ch, List.length_map] using g119
                    replace r10 := bindS r10
                    obtain ⟨v120, hv120, r10⟩ := r10
                    have i121 : nth (y117.Buckets.map (roC 4 EntryT.cells)) (0 + ((y37.1 : Int).toNat)) = some [(LV.ro 4 (v120.map EntryT.cells))] := by simpa only [se_map, se_len, se_ch, List.length_map, nth_eq, Nat.zero_add, List.getElem?_map] using gixNF (f := (roC 4 EntryT.cells)) hv120
                    have e := Option.some.inj r10
                    subst e
                    repeat' first | with_reducible rfl | with_reducible exact True.intro | with_reducible assumption | exact g119 | (refine CallW.frame (nx2 := 8) (l2 := [(7, (.row 111 1 (y117.Buckets.map (roC 4 EntryT.cells))))]) [] [(0, 7)] c118 rfl rfl trivial rfl rfl ⟨⟨rfl, rfl, .inl ⟨rfl, nlT⟩⟩, rfl, rfl, trivial⟩ ?_; conv => whnf) | (rw [i121]; conv => whnf) | exact clA _ | (refine And.intro ?_ ?_ <;> conv => whnf) | exact clG _ | (refine gand ?_ h; assumption) | exact clN _ | fail
                · unfold fdb_put_c3 at b10
                  have hd : decide (((k10 : Nat) : Int) < (((y111.1.map iC).length : Nat) : Int)) = true := by rw [decide_eq_true_eq]; (try simp only [se_len, se_ch, List.length_map] at hk10); (try simp only [se_len, se_ch, List.length_map]); omega
                  refine LoopW.round TT_ok [0, 1, 2, 3, 4, 5, 6, 7, 8, 9, 10, 11, 12, 14, 29, 30, 31, 39, 60, 78, 86, 99, 100, 101, 102, 1000105, 4000118, 5000083, 8000074, 8000077] ?_
                  conv => whnf
                  repeat' first | with_reducible rfl | with_reducible exact True.intro | with_reducible assumption | refine parkI ?_ | (refine And.intro ?_ ?_ <;> conv => whnf) | fail
                  refine parkE (fun hc => ?_) (fun hc => ?_)
                  · clear hd
                    conv => whnf
                    replace b10 := grdS b10
                    obtain ⟨g113, b10⟩ := b10
                    replace g113 : (0 : Int) ≤ x10 ∧ x10 < (((y41.map EntryT.cells).length : Nat) : Int) := by simpa only [se_len, se_ch, List.length_map] using g113
                    replace b10 := bindS b10
                    obtain ⟨v114, hv114, b10⟩ := b10
                    have i115 : nth (setN (y41.map EntryT.cells) (0 + ((y37.2 : Int).toNat)) [(I a1.Mac), (I a1.Port), (I a1.Seen), (LV.bool a1.Static)]) (0 + ((x10 : Int).toNat)) = some [(I v114.Mac), (I v114.Port), (I v114.Seen), (LV.bool v114.Static)] := by simpa only [se_map, se_len, se_ch, List.length_map, nth_eq, Nat.zero_add, List.getElem?_map] using gixNF (f := EntryT.cells) hv114
                    replace b10 := grdS b10
                    obtain ⟨g116, b10⟩ := b10
                    replace g116 : fits (((s10.map EntryT.cells) ++ [[(I v114.Mac), (I v114.Port), (I v114.Seen), (LV.bool v114.Static)]])).length 32 := by simpa only [se_len, se_ch, List.length_map] using g116
                    repeat' first | with_reducible rfl | with_reducible exact True.intro | with_reducible assumption | refine parkI ?_ | (refine ⟨_, (kixF (f := iC) hx10), ?_⟩; conv => whnf) | exact g113 | exact g116 | (first | (rw [i115]; conv => whnf) | (erw [i115]; conv => whnf)) | exact clA _ | (refine And.intro ?_ ?_ <;> conv => whnf) | exact clN _ | fail
                    have e := Option.some.inj b10
                    refine LoopW.ren [(0, 0), (2, 2), (3, 3), (8, 6)] [(2, (LV.ptr 0 0 0)), (4, (LV.ptr 2 0 0)), (6, (I y37.1)), (8, (LV.sl 3 0 (y41.map EntryT.cells).length)), (12, (LV.sl 6 0 ((s10 ++ ([v114] : (List EntryT))).map EntryT.cells).length)), (99, (LV.ro 1 (y111.1.map iC))), (100, (I (((y111.1.map iC).length : Nat) : Int))), (101, (I ((k10 + 1 : Nat) : Int)))] 7 [(0, (.row 69 3 [[(LV.ro 1 (a0.Buckets.map (roC 4 EntryT.cells))), (I a0.Slots), (I a0.Age)]])), (2, (.row 69 3 [[LV.nils, (I 0), (I 0)]])), (3, (.row 116 4 (setN (y41.map EntryT.cells) (0 + ((y37.2 : Int).toNat)) [(I a1.Mac), (I a1.Port), (I a1.Seen), (LV.bool a1.Static)]))), (6, (.row 116 4 ((s10 ++ ([v114] : (List EntryT))).map EntryT.cells)))] rfl ⟨rfl, rfl, rfl, rfl, (by exact congrArg (LV.sl 6 0) (clL _ : (((s10.map EntryT.cells) ++ [[(I v114.Mac), (I v114.Port), (I v114.Seen), (LV.bool v114.Static)]])).length = ((s10 ++ ([v114] : (List EntryT))).map EntryT.cells).length)), rfl, rfl, (congrArg (LV.int .i64) (w64_nat _ (by omega))), trivial⟩ ⟨⟨rfl, rfl, .inl ⟨rfl, nlT⟩⟩, rfl, rfl, ⟨⟨rfl, rfl, .inl ⟨rfl, nlT⟩⟩, rfl, rfl, ⟨⟨rfl, rfl, .inl ⟨rfl, nlT⟩⟩, rfl, rfl, ⟨⟨rfl, rfl, .inl ⟨(smT : (((s10.map EntryT.cells) ++ [[(I v114.Mac), (I v114.Port), (I v114.Seen), (LV.bool v114.Static)]]) : List (List LV)) = ((s10 ++ ([v114] : (List EntryT))).map EntryT.cells)), nlT⟩⟩, rfl, rfl, trivial⟩⟩⟩⟩ rfl (K10 _ e.symm)
                  · exact (Bool.false_ne_true (hc.symm.trans hd)).elim
        · replace r6 := condF (by first | exact hc | simpa only [se_len, se_ch, List.length_map] using hc) r6
          conv => whnf
          repeat' first | with_reducible rfl | with_reducible exact True.intro | with_reducible assumption | refine parkI ?_ | (refine And.intro ?_ ?_ <;> conv => whnf) | fail
          replace r6 := aftS r6
          obtain ⟨O15, hO15, r15⟩ := r6
          refine LoopW.virt 12 116 4 rfl ?_
          refine LoopW.norm [(2, (LV.ptr 0 0 0)), (4, (LV.ptr 2 0 0)), (6, (I y37.1)), (8, (LV.sl 3 0 (y41.map EntryT.cells).length)), (12, (LV.sl 5 0 (([] : (List EntryT)).map EntryT.cells).length)), (99, (LV.ro 1 (y102.1.map iC))), (100, (I (((y102.1.map iC).length : Nat) : Int))), (101, (I ((0 : Nat) : Int)))] 6 [(0, (.row 69 3 [[(LV.ro 1 (a0.Buckets.map (roC 4 EntryT.cells))), (I a0.Slots), (I a0.Age)]])), (2, (.row 69 3 [[LV.nils, (I 0), (I 0)]])), (3, (.row 116 4 (setN (y41.map EntryT.cells) (0 + ((y37.2 : Int).toNat)) [(I a1.Mac), (I a1.Port), (I a1.Seen), (LV.bool a1.Static)]))), (5, (.row 116 4 (([] : (List EntryT)).map EntryT.cells)))] ⟨rfl, rfl, rfl, rfl, (by exact congrArg (LV.sl 5 0) (clL _ : 0 = (([] : (List EntryT)).map EntryT.cells).length)), rfl, rfl, rfl, trivial⟩ ⟨⟨rfl, rfl, blT⟩, ⟨⟨rfl, rfl, blT⟩, ⟨⟨rfl, rfl, NLss_bel nlT⟩, ⟨⟨(congrArg (fun q => some (Blk.row 116 4 q)) (smT : ([] : List (List LV)) = (([] : (List EntryT)).map EntryT.cells))), rfl, NLss_bel (NLss_map' _)⟩, trivial⟩⟩⟩⟩ blT rfl ?_
          refine LoopW.forR (fun k15 s15 => [(2, (LV.ptr 0 0 0)), (4, (LV.ptr 2 0 0)), (6, (I y37.1)), (8, (LV.sl 3 0 (y41.map EntryT.cells).length)), (12, (LV.sl 5 0 (s15.map EntryT.cells).length)), (99, (LV.ro 1 (y102.1.map iC))), (100, (I (((y102.1.map iC).length : Nat) : Int))), (101, (I ((k15 : Nat) : Int)))]) (fun s15 => ⟨6, [(0, (.row 69 3 [[(LV.ro 1 (a0.Buckets.map (roC 4 EntryT.cells))), (I a0.Slots), (I a0.Age)]])), (2, (.row 69 3 [[LV.nils, (I 0), (I 0)]])), (3, (.row 116 4 (setN (y41.map EntryT.cells) (0 + ((y37.2 : Int).toNat)) [(I a1.Mac), (I a1.Port), (I a1.Seen), (LV.bool a1.Static)]))), (5, (.row 116 4 (s15.map EntryT.cells)))]⟩) hO15 (fun hl15 s15 hs15 => ?_) (fun hl15 k15 x15 s15 o15 hk15 hx15 b15 K15 hret15 hbrk15 => ?_)
          · rw [hs15] at r15
            dsimp only [aftM] at r15
            have hd : decide (((y102.1.length : Nat) : Int) < (((y102.1.map iC).length : Nat) : Int)) = false := by rw [decide_eq_false_iff_not]; (try simp only [se_len, se_ch, List.length_map]); omega
            refine LoopW.round TT_ok [0, 1, 2, 3, 4, 5, 6, 7, 8, 9, 10, 11, 12, 14, 29, 30, 31, 39, 60, 78, 86, 99, 100, 101, 102, 1000105, 4000118, 5000083, 8000074, 8000077] ?_
            conv => whnf
            repeat' first | with_reducible rfl | with_reducible exact True.intro | with_reducible assumption | refine parkI ?_ | (refine And.intro ?_ ?_ <;> conv => whnf) | fail
            refine parkE (fun hc => ?_) (fun hc => ?_)
            · exact (Bool.false_ne_true (hd.symm.trans hc)).elim
            · clear hd
              conv => whnf
              replace r15 := bindS r15
              obtain ⟨y140, hy140, r15⟩ := r15
              have c141 : CallW Try.prog 105 [(LV.agg [(LV.ro 1 (a0.Buckets.map (roC 4 EntryT.cells))), (I a0.Slots), (I a0.Age)])] ⟨0, []⟩ (fun lv H' => lv = (LV.agg [(LV.sl 0 0 (y140.Buckets.map (roC 4 EntryT.cells)).length), (I y140.Slots), (I y140.Age)]) ∧ H' = ⟨1, [(0, (.row 111 1 (y140.Buckets.map (roC 4 EntryT.cells))))]⟩) := w_fdb_own_x a0 _ hy140
              replace r15 := grdS r15
              obtain ⟨g142, r15⟩ := r15
              replace g142 : (0 : Int) ≤ y37.1 ∧ y37.1 < (((y140.Buckets.map (roC 4 EntryT.cells)).length : Nat) : Int) := by simpa only [se_len, se_ch, List.length_map] using g142
              replace r15 := bindS r15
              obtain ⟨v143, hv143, r15⟩ := r15
              have i144 : nth (y140.Buckets.map (roC 4 EntryT.cells)) (0 + ((y37.1 : Int).toNat)) = some [(LV.ro 4 (v143.map EntryT.cells))] := by simpa only [se_map, se_len, se_ch, List.length_map, nth_eq, Nat.zero_add, List.getElem?_map] using gixNF (f := (roC 4 EntryT.cells)) hv143
              have e := Option.some.inj r15
              subst e
              repeat' first | with_reducible rfl | with_reducible exact True.intro | with_reducible assumption | exact g142 | (refine CallW.frame (nx2 := 7) (l2 := [(6, (.row 111 1 (y140.Buckets.map (roC 4 EntryT.cells))))]) [] [(0, 6)] c141 rfl rfl trivial rfl rfl ⟨⟨rfl, rfl, .inl ⟨rfl, nlT⟩⟩, rfl, rfl, trivial⟩ ?_; conv => whnf) | (rw [i144]; conv => whnf) | exact clA _ | (refine And.intro ?_ ?_ <;> conv => whnf) | exact clG _ | (refine gand ?_ h; assumption) | exact clN _ | fail
          · unfold fdb_put_c6 at b15
            have hd : decide (((k15 : Nat) : Int) < (((y102.1.map iC).length : Nat) : Int)) = true := by rw [decide_eq_true_eq]; (try simp only [se_len, se_ch, List.length_map] at hk15); (try simp only [se_len, se_ch, List.length_map]); omega
            refine LoopW.round TT_ok [0, 1, 2, 3, 4, 5, 6, 7, 8, 9, 10, 11, 12, 14, 29, 30, 31, 39, 60, 78, 86, 99, 100, 101, 102, 1000105, 4000118, 5000083, 8000074, 8000077] ?_
            conv => whnf
            repeat' first | with_reducible rfl | with_reducible exact True.intro | with_reducible assumption | refine parkI ?_ | (refine And.intro ?_ ?_ <;> conv => whnf) | fail
            refine parkE (fun hc => ?_) (fun hc => ?_)
            · clear hd
              conv => whnf
              replace b15 := grdS b15
              obtain ⟨g136, b15⟩ := b15
              replace g136 : (0 : Int) ≤ x15 ∧ x15 < (((y41.map EntryT.cells).length : Nat) : Int) := by simpa only [se_len, se_ch, List.length_map] using g136
              replace b15 := bindS b15
              obtain ⟨v137, hv137, b15⟩ := b15
              have i138 : nth (setN (y41.map EntryT.cells) (0 + ((y37.2 : Int).toNat)) [(I a1.Mac), (I a1.Port), (I a1.Seen), (LV.bool a1.Static)]) (0 + ((x15 : Int).toNat)) = some [(I v137.Mac), (I v137.Port), (I v137.Seen), (LV.bool v137.Static)] := by simpa only [se_map, se_len, se_ch, List.length_map, nth_eq, Nat.zero_add, List.getElem?_map] using gixNF (f := EntryT.cells) hv137
              replace b15 := grdS b15
              obtain ⟨g139, b15⟩ := b15
              replace g139 : fits (((s15.map EntryT.cells) ++ [[(I v137.Mac), (I v137.Port), (I v137.Seen), (LV.bool v137.Static)]])).length 32 := by simpa only [se_len, se_ch, List.length_map] using g139
              repeat' first | with_reducible rfl | with_reducible exact True.intro | with_reducible assumption | refine parkI ?_ | (refine ⟨_, (kixF (f := iC) hx15), ?_⟩; conv => whnf) | exact g136 | exact g139 | (first | (rw [i138]; conv => whnf) | (erw [i138]; conv => whnf)) | exact clA _ | (refine And.intro ?_ ?_ <;> conv => whnf) | exact clN _ | fail
              have e := Option.some.inj b15
              refine LoopW.ren [(0, 0), (2, 2), (3, 3), (7, 5)] [(2, (LV.ptr 0 0 0)), (4, (LV.ptr 2 0 0)), (6, (I y37.1)), (8, (LV.sl 3 0 (y41.map EntryT.cells).length)), (12, (LV.sl 5 0 ((s15 ++ ([v137] : (List EntryT))).map EntryT.cells).length)), (99, (LV.ro 1 (y102.1.map iC))), (100, (I (((y102.1.map iC).length : Nat) : Int))), (101, (I ((k15 + 1 : Nat) : Int)))] 6 [(0, (.row 69 3 [[(LV.ro 1 (a0.Buckets.map (roC 4 EntryT.cells))), (I a0.Slots), (I a0.Age)]])), (2, (.row 69 3 [[LV.nils, (I 0), (I 0)]])), (3, (.row 116 4 (setN (y41.map EntryT.cells) (0 + ((y37.2 : Int).toNat)) [(I a1.Mac), (I a1.Port), (I a1.Seen), (LV.bool a1.Static)]))), (5, (.row 116 4 ((s15 ++ ([v137] : (List EntryT))).map EntryT.cells)))] rfl ⟨rfl, rfl, rfl, rfl, (by exact congrArg (LV.sl 5 0) (clL _ : (((s15.map EntryT.cells) ++ [[(I v137.Mac), (I v137.Port), (I v137.Seen), (LV.bool v137.Static)]])).length = ((s15 ++ ([v137] : (List EntryT))).map EntryT.cells).length)), rfl, rfl, (congrArg (LV.int .i64) (w64_nat _ (by omega))), trivial⟩ ⟨⟨rfl, rfl, .inl ⟨rfl, nlT⟩⟩, rfl, rfl, ⟨⟨rfl, rfl, .inl ⟨rfl, nlT⟩⟩, rfl, rfl, ⟨⟨rfl, rfl, .inl ⟨rfl, nlT⟩⟩, rfl, rfl, ⟨⟨rfl, rfl, .inl ⟨(smT : (((s15.map EntryT.cells) ++ [[(I v137.Mac), (I v137.Port), (I v137.Seen), (LV.bool v137.Static)]]) : List (List LV)) = ((s15 ++ ([v137] : (List EntryT))).map EntryT.cells)), nlT⟩⟩, rfl, rfl, trivial⟩⟩⟩⟩ rfl (K15 _ e.symm)
            · exact (Bool.false_ne_true (hc.symm.trans hd)).elim
  · unfold fdb_put_c0 at b6
    have hd : decide (((k6 : Nat) : Int) < (((y41.map EntryT.cells).length : Nat) : Int)) = true := by rw [decide_eq_true_eq]; (try simp only [se_len, se_ch, List.length_map] at hk6); (try simp only [se_len, se_ch, List.length_map]); omega
    refine LoopW.round TT_ok [0, 1, 2, 3, 4, 5, 6, 7, 8, 9, 10, 11, 12, 14, 29, 30, 31, 39, 60, 78, 86, 99, 100, 101, 102, 1000105, 4000118, 5000083, 8000074, 8000077] ?_
    conv => whnf
    repeat' first | with_reducible rfl | with_reducible exact True.intro | with_reducible assumption | refine parkI ?_ | (refine And.intro ?_ ?_ <;> conv => whnf) | fail
    refine parkE (fun hc => ?_) (fun hc => ?_)
    · clear hd
      conv => whnf
      replace b6 := grdS b6
      obtain ⟨g43, b6⟩ := b6
      replace g43 : fits (((s6.map iC) ++ [[(I ((k6 : Nat) : Int))]])).length 8 := by simpa only [se_len, se_ch, List.length_map] using g43
      repeat' first | with_reducible rfl | with_reducible exact True.intro | with_reducible assumption | refine parkI ?_ | exact g43 | exact clA _ | (refine And.intro ?_ ?_ <;> conv => whnf) | exact clN _ | fail
      have e := Option.some.inj b6
      refine LoopW.ren [(0, 0), (1, 1), (2, 2), (3, 3), (6, 4)] [(2, (LV.ptr 0 0 0)), (3, (LV.ptr 1 0 0)), (4, (LV.ptr 2 0 0)), (6, (I y37.1)), (7, (I y37.2)), (8, (LV.sl 3 0 (y41.map EntryT.cells).length)), (9, (LV.sl 4 0 ((s6 ++ ([((k6 : Nat) : Int)] : (List Int))).map iC).length)), (29, (I (((y41.map EntryT.cells).length : Nat) : Int))), (30, (I ((k6 + 1 : Nat) : Int)))] 5 [(0, (.row 69 3 [[(LV.ro 1 (a0.Buckets.map (roC 4 EntryT.cells))), (I a0.Slots), (I a0.Age)]])), (1, (.row 116 4 [[(I a1.Mac), (I a1.Port), (I a1.Seen), (LV.bool a1.Static)]])), (2, (.row 69 3 [[LV.nils, (I 0), (I 0)]])), (3, (.row 116 4 (y41.map EntryT.cells))), (4, (.row 3 1 ((s6 ++ ([((k6 : Nat) : Int)] : (List Int))).map iC)))] rfl ⟨rfl, rfl, rfl, rfl, rfl, rfl, (by exact congrArg (LV.sl 4 0) (clL _ : (((s6.map iC) ++ [[(I ((k6 : Nat) : Int))]])).length = ((s6 ++ ([((k6 : Nat) : Int)] : (List Int))).map iC).length)), rfl, (congrArg (LV.int .i64) (w64_nat _ (by omega))), trivial⟩ ⟨⟨rfl, rfl, .inl ⟨rfl, nlT⟩⟩, rfl, rfl, ⟨⟨rfl, rfl, .inl ⟨rfl, nlT⟩⟩, rfl, rfl, ⟨⟨rfl, rfl, .inl ⟨rfl, nlT⟩⟩, rfl, rfl, ⟨⟨rfl, rfl, .inl ⟨rfl, nlT⟩⟩, rfl, rfl, ⟨⟨rfl, rfl, .inl ⟨(smT : (((s6.map iC) ++ [[(I ((k6 : Nat) : Int))]]) : List (List LV)) = ((s6 ++ ([((k6 : Nat) : Int)] : (List Int))).map iC)), nlT⟩⟩, rfl, rfl, trivial⟩⟩⟩⟩⟩ rfl (K6 _ e.symm)
    · exact (Bool.false_ne_true (hc.symm.trans hd)).elim

def fdb_Learn (a0 : TableT) (a1 : Int) (a2 : Int) (a3 : Int) : Option (TableT × Int) :=
  (fdb_Right a0).bind fun y21 =>
  (gd (!(!y21)) (fdb_isMac a1)).bind fun y23 =>
  (gd (!(bif (!y21) then true else (!y23))) (fdb_isPort a2)).bind fun y25 =>
  (gd (!(bif (bif (!y21) then true else (!y23)) then true else (!y25))) (fdb_isTime a3)).bind fun y27 =>
  (bif (bif (bif (bif (!y21) then true else (!y23)) then true else (!y25)) then true else (!y27)) then
    some ((⟨[], 0, 0⟩ : TableT), 1)
  else
    (fdb_pinned a0 a1).bind fun y35 =>
    (bif (!y35) then
      (fdb_put a0 (⟨a1, a2, a3, false⟩ : EntryT)).bind fun y145 =>
      some (y145.1, 0)
    else
      some (a0, 0)))

theorem c_fdb_Learn (a0 : TableT) (a1 : Int) (a2 : Int) (a3 : Int) (r : (TableT × Int)) (h : fdb_Learn a0 a1 a2 a3 = some r) : CallP Try.prog 46 [(LV.agg [(LV.ro 1 (a0.Buckets.map (roC 4 EntryT.cells))), (I a0.Slots), (I a0.Age)]), (I a1), (I a2), (I a3)] (LV.tup [(LV.agg [(LV.ro 1 (r.1.Buckets.map (roC 4 EntryT.cells))), (I r.1.Slots), (I r.1.Age)]), (I r.2)]) := by
  unfold fdb_Learn at h
  refine .intro nlA (.intro TT_ok Try.func46 rfl rfl [0, 1, 2, 3, 4, 8, 9, 27, 32] rfl ?_)
  conv => whnf
  replace h := bindS h
  obtain ⟨y21, hy21, h⟩ := h
  have c22 := c_fdb_Right a0 _ hy21
  replace h := bindS h
  obtain ⟨y23, hy23, h⟩ := h
  have c24 := fun (hg : (!(!y21)) = true) => c_fdb_isMac a1 _ (gdS hg hy23)
  replace h := bindS h
  obtain ⟨y25, hy25, h⟩ := h
  have c26 := fun (hg : (!(bif (!y21) then true else (!y23))) = true) => c_fdb_isPort a2 _ (gdS hg hy25)
  replace h := bindS h
  obtain ⟨y27, hy27, h⟩ := h
  have c28 := fun (hg : (!(bif (bif (!y21) then true else (!y23)) then true else (!y25))) = true) => c_fdb_isTime a3 _ (gdS hg hy27)
  repeat' first | with_reducible rfl | with_reducible exact True.intro | with_reducible assumption | refine parkI ?_ | (refine ⟨_, c24, ?_⟩; conv => whnf) | (refine ⟨_, c26, ?_⟩; conv => whnf) | (refine ⟨_, c28, ?_⟩; conv => whnf) | (refine CallP.use c22 ?_; conv => whnf) | exact clA _ | (refine And.intro ?_ ?_ <;> conv => whnf) | exact clG _ | (refine gand ?_ h; assumption) | fail
  refine parkE (fun hc => ?_) (fun hc => ?_)
  · replace h := condT hc h
    conv => whnf
    have e := Option.some.inj h
    subst e
    repeat' first | with_reducible rfl | with_reducible exact True.intro | with_reducible assumption | exact clA _ | (refine And.intro ?_ ?_ <;> conv => whnf) | exact clG _ | (refine gand ?_ h; assumption) | exact clN _ | fail
  · replace h := condF hc h
    conv => whnf
    replace h := bindS h
    obtain ⟨y35, hy35, h⟩ := h
    have c36 := c_fdb_pinned a0 a1 _ hy35
    repeat' first | with_reducible rfl | with_reducible exact True.intro | with_reducible assumption | refine parkI ?_ | (refine CallP.use c36 ?_; conv => whnf) | (refine And.intro ?_ ?_ <;> conv => whnf) | fail
    refine parkE (fun hc => ?_) (fun hc => ?_)
    · replace h := condT hc h
      conv => whnf
      replace h := bindS h
      obtain ⟨y145, hy145, h⟩ := h
      have c146 : CallP Try.prog 79 [(LV.agg [(LV.ro 1 (a0.Buckets.map (roC 4 EntryT.cells))), (I a0.Slots), (I a0.Age)]), (LV.agg [(I a1), (I a2), (I a3), (LV.bool false)])] (LV.tup [(LV.agg [(LV.ro 1 (y145.1.Buckets.map (roC 4 EntryT.cells))), (I y145.1.Slots), (I y145.1.Age)]), (LV.bool y145.2)]) := by first | exact c_fdb_put a0 (⟨a1, a2, a3, false⟩ : EntryT) _ hy145 | (simpa only [se_map, se_byL, se_len, se_ch, List.length_map] using c_fdb_put a0 (⟨a1, a2, a3, false⟩ : EntryT) _ hy145) | (simpa only [se_map, se_byL, se_len, se_ch, List.length_map, EntryT.cells] using c_fdb_put a0 (⟨a1, a2, a3, false⟩ : EntryT) _ hy145)
      have e := Option.some.inj h
      subst e
      repeat' first | with_reducible rfl | with_reducible exact True.intro | with_reducible assumption | (refine CallP.use c146 ?_; conv => whnf) | exact clA _ | (refine And.intro ?_ ?_ <;> conv => whnf) | exact clG _ | (refine gand ?_ h; assumption) | exact clN _ | fail
    · replace h := condF hc h
      conv => whnf
      have e := Option.some.inj h
      subst e
      repeat' first | with_reducible rfl | with_reducible exact True.intro | with_reducible assumption | exact clA _ | (refine And.intro ?_ ?_ <;> conv => whnf) | exact clG _ | (refine gand ?_ h; assumption) | exact clN _ | fail

end Go.RX
