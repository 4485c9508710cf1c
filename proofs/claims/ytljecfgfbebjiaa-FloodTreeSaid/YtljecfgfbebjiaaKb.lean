/- Plain functions, and what says that the program's functions compute them. -/
import Derived.Test.YtljecfgfbebjiaaKa
set_option linter.unusedVariables false
set_option linter.unusedSimpArgs false
open Go Go.RX Go.Proofs
namespace Go.RX
set_option maxRecDepth 10000
set_option maxHeartbeats 4000000
attribute [local irreducible] CallW CallP LoopW W IntKind.wrap bitI
theorem m_95_137 : MethodIs Try.prog 95 "Push" 137 := fun v w => by kernel_rfl

def tree_ways_Push_x (a0 : (List tree_wayT)) (a1 : tree_wayT) : Option (List tree_wayT) :=
 grd (fits ((a0 ++ ([a1] : (List tree_wayT))) : List tree_wayT).length 24) <|
 some (a0 ++ ([a1] : (List tree_wayT)))

theorem w_tree_ways_Push_x (a0 : (List tree_wayT)) (a1 : tree_wayT) (r : (List tree_wayT)) (h : tree_ways_Push_x a0 a1 = some r) : CallW Try.prog 137 [(LV.ptr 0 0 0), (LV.iface 102 (LV.agg [(I a1.best.c0), (I a1.best.c1), (I a1.at_)]))] ⟨2, [(0, (.row 97 1 [[(LV.sl 1 0 (a0.map tree_wayT.cells).length)]])), (1, (.row 102 3 (a0.map tree_wayT.cells)))]⟩ (fun lv H' => lv = (LV.tup []) ∧ H' = ⟨3, [(0, (.row 97 1 [[(LV.sl 2 0 (r.map tree_wayT.cells).length)]])), (2, (.row 102 3 (r.map tree_wayT.cells)))]⟩) := by
 unfold tree_ways_Push_x at h
 refine CallW.shrinkR (CallW.intro TT_ok Try.func137 rfl rfl [0, 1] rfl ?_)
 conv => whnf
 replace h := grdS h
 obtain ⟨g1, h⟩ := h
 replace g1 : fits (((a0.map tree_wayT.cells) ++ [[(I a1.best.c0), (I a1.best.c1), (I a1.at_)]])).length 24 := by simpa only [se_len, se_ch, List.length_map] using g1
 have e := Option.some.inj h
 subst e
 repeat' first | exact rA _ | exact ⟨[(0, 0), (3, 2)], 3, [(0, (.row 97 1 [[(LV.sl 2 0 ((a0 ++ ([a1] : (List tree_wayT))).map tree_wayT.cells).length)]])), (2, (.row 102 3 ((a0 ++ ([a1] : (List tree_wayT))).map tree_wayT.cells)))], rfl, ⟨⟨rfl, rfl, .inr (by first | exact rfl | (show ([[(LV.sl 2 0 (((a0.map tree_wayT.cells) ++ [[(I a1.best.c0), (I a1.best.c1), (I a1.at_)]])).length)]] : List (List LV)) = [[(LV.sl 2 0 ((a0 ++ ([a1] : (List tree_wayT))).map tree_wayT.cells).length)]]; exact smT))⟩, rfl, rfl, ⟨⟨rfl, rfl, .inl ⟨(smT : (((a0.map tree_wayT.cells) ++ [[(I a1.best.c0), (I a1.best.c1), (I a1.at_)]]) : List (List LV)) = ((a0 ++ ([a1] : (List tree_wayT))).map tree_wayT.cells)), nlT⟩⟩, rfl, rfl, trivial⟩⟩, rfl, rfl, rfl, rfl⟩ | exact g1 | (refine W.drawnM (id := 0) 0 TT_ok hmix1 [0, 0, 0, 0, 0, 0, 0, 1, 2, 2] [2, 1, 1, 1, 0, 0, 1, 2, 2, 3] rfl ?_; conv => whnf) | exact clA _ | (refine And.intro ?_ ?_ <;> conv => whnf) | exact clH _ | (refine gand ?_ h; assumption) | exact clN _ | exact clL _ | fail

theorem d_95_134 : MethodDe Try.prog 95 "Len" 134 97 := fun a w => by kernel_rfl

def _tree_ways_Len_x (a0 : (List tree_wayT)) : Option Int :=
 some ((a0.length : Nat) : Int)

theorem w__tree_ways_Len_x (a0 : (List tree_wayT)) (r : Int) (h : _tree_ways_Len_x a0 = some r) : CallW Try.prog 134 [(LV.sl 0 0 (a0.map tree_wayT.cells).length)] ⟨1, [(0, (.row 102 3 (a0.map tree_wayT.cells)))]⟩ (fun lv H' => lv = (I r) ∧ H' = ⟨1, [(0, (.row 102 3 (a0.map tree_wayT.cells)))]⟩) := by
 unfold _tree_ways_Len_x at h
 refine CallW.shrinkR (CallW.intro TT_ok Try.func134 rfl rfl [0, 2] rfl ?_)
 conv => whnf
 have e := Option.some.inj h
 subst e
 repeat' first | exact rA _ | exact ⟨[(0, 0)], 1, [(0, (.row 102 3 (a0.map tree_wayT.cells)))], rfl, ⟨⟨rfl, rfl, .inl ⟨rfl, nlT⟩⟩, rfl, rfl, trivial⟩, rfl, rfl, (by first | exact rfl | (show ((I (((a0.map tree_wayT.cells).length : Nat) : Int)) : LV) = (I ((a0.length : Nat) : Int)); simp only [se_map, se_byL, se_len, se_ch, List.length_map]; done) | (show ((I (((a0.map tree_wayT.cells).length : Nat) : Int)) : LV) = (I ((a0.length : Nat) : Int)); (try simp only [se_map, se_byL, se_len, se_ch, List.length_map]); first | (congr 1; (try simp only [se_len, se_ch, List.length_map] at *); omega) | (simp only [LV.agg.injEq, LV.tup.injEq, List.cons.injEq, LV.sl.injEq, true_and, and_true]; omega))), rfl⟩ | exact clA _ | (refine And.intro ?_ ?_ <;> conv => whnf) | exact clH _ | (refine gand ?_ h; assumption) | exact clN _ | exact clL _ | fail

theorem d_95_135 : MethodDe Try.prog 95 "Less" 135 97 := fun a w => by kernel_rfl

def _tree_best_less (a0 : tree_bestT) (a1 : tree_bestT) : Option Bool :=
 some (bif (decide (a0.c0 < a1.c0)) then true else (bif (decide (a0.c0 = a1.c0)) then (decide (a0.c1 < a1.c1)) else false))

theorem c__tree_best_less (a0 : tree_bestT) (a1 : tree_bestT) (r : Bool) (h : _tree_best_less a0 a1 = some r) : CallP Try.prog 133 [(LV.agg [(I a0.c0), (I a0.c1)]), (LV.agg [(I a1.c0), (I a1.c1)])] (LV.bool r) := by
 unfold _tree_best_less at h
 refine .intro nlA (.intro TT_ok Try.func133 rfl rfl [0, 1, 2, 3, 4] rfl ?_)
 conv => whnf
 have e := Option.some.inj h
 subst e
 repeat' first | exact rA _ | exact (⟨by decide, by decide⟩ : (0 : Int) ≤ 0 ∧ (0 : Int) < 2) | exact fun _ => (⟨by decide, by decide⟩ : (0 : Int) ≤ 0 ∧ (0 : Int) < 2) | exact fun _ => (⟨by decide, by decide⟩ : (0 : Int) ≤ 1 ∧ (1 : Int) < 2) | exact clA _ | (refine And.intro ?_ ?_ <;> conv => whnf) | exact clG _ | (refine gand ?_ h; assumption) | exact clN _ | fail

def _tree_ways_Less_x (a0 : (List tree_wayT)) (a1 : Int) (a2 : Int) : Option Bool :=
 grd ((0 : Int) ≤ a1 ∧ a1 < ((a0.length : Nat) : Int)) <|
 (gixN a0 (a1 : Int).toNat).bind fun v6 =>
 grd ((0 : Int) ≤ a2 ∧ a2 < ((a0.length : Nat) : Int)) <|
 (gixN a0 (a2 : Int).toNat).bind fun v9 =>
 (_tree_best_less v6.best v9.best).bind fun y11 =>
 some y11

theorem w__tree_ways_Less_x (a0 : (List tree_wayT)) (a1 : Int) (a2 : Int) (r : Bool) (h : _tree_ways_Less_x a0 a1 a2 = some r) : CallW Try.prog 135 [(LV.sl 0 0 (a0.map tree_wayT.cells).length), (I a1), (I a2)] ⟨1, [(0, (.row 102 3 (a0.map tree_wayT.cells)))]⟩ (fun lv H' => lv = (LV.bool r) ∧ H' = ⟨1, [(0, (.row 102 3 (a0.map tree_wayT.cells)))]⟩) := by
 unfold _tree_ways_Less_x at h
 refine CallW.shrinkR (CallW.intro TT_ok Try.func135 rfl rfl [0, 1, 2, 6] rfl ?_)
 conv => whnf
 replace h := grdS h
 obtain ⟨g5, h⟩ := h
 replace g5 : (0 : Int) ≤ a1 ∧ a1 < (((a0.map tree_wayT.cells).length : Nat) : Int) := by simpa only [se_len, se_ch, List.length_map] using g5
 replace h := bindS h
 obtain ⟨v6, hv6, h⟩ := h
 have i7 : nth (a0.map tree_wayT.cells) (0 + ((a1 : Int).toNat)) = some [(I v6.best.c0), (I v6.best.c1), (I v6.at_)] := by simpa only [se_map, se_len, se_ch, List.length_map, nth_eq, Nat.zero_add, List.getElem?_map] using gixNF (f := tree_wayT.cells) hv6
 replace h := grdS h
 obtain ⟨g8, h⟩ := h
 replace g8 : (0 : Int) ≤ a2 ∧ a2 < (((a0.map tree_wayT.cells).length : Nat) : Int) := by simpa only [se_len, se_ch, List.length_map] using g8
 replace h := bindS h
 obtain ⟨v9, hv9, h⟩ := h
 have i10 : nth (a0.map tree_wayT.cells) (0 + ((a2 : Int).toNat)) = some [(I v9.best.c0), (I v9.best.c1), (I v9.at_)] := by simpa only [se_map, se_len, se_ch, List.length_map, nth_eq, Nat.zero_add, List.getElem?_map] using gixNF (f := tree_wayT.cells) hv9
 replace h := bindS h
 obtain ⟨y11, hy11, h⟩ := h
 have c12 := c__tree_best_less v6.best v9.best _ hy11
 have e := Option.some.inj h
 subst e
 repeat' first | exact rA _ | exact ⟨[(0, 0)], 1, [(0, (.row 102 3 (a0.map tree_wayT.cells)))], rfl, ⟨⟨rfl, rfl, .inl ⟨rfl, nlT⟩⟩, rfl, rfl, trivial⟩, rfl, rfl, rfl, rfl⟩ | exact g5 | exact g8 | (refine CallP.use c12 ?_; conv => whnf) | (refine ⟨_, _, CallP.at c12, ?_⟩; conv => whnf) | (refine ⟨_, fun _ => c12, ?_⟩; conv => whnf) | (rw [i7]; conv => whnf) | (rw [i10]; conv => whnf) | (refine W.drawn TT_ok hmix1 rfl ?_; conv => whnf) | exact clA _ | (refine And.intro ?_ ?_ <;> conv => whnf) | exact clH _ | (refine gand ?_ h; assumption) | exact clN _ | exact clL _ | fail

theorem d_95_138 : MethodDe Try.prog 95 "Swap" 138 97 := fun a w => by kernel_rfl

def _tree_ways_Swap_x (a0 : (List tree_wayT)) (a1 : Int) (a2 : Int) : Option (List tree_wayT) :=
 grd ((0 : Int) ≤ a2 ∧ a2 < ((a0.length : Nat) : Int)) <|
 (gixN a0 (a2 : Int).toNat).bind fun v8 =>
 grd ((0 : Int) ≤ a1 ∧ a1 < ((a0.length : Nat) : Int)) <|
 (gixN a0 (a1 : Int).toNat).bind fun v11 =>
 grd ((0 : Int) ≤ a1 ∧ a1 < ((a0.length : Nat) : Int)) <|
 grd ((0 : Int) ≤ a2 ∧ a2 < (((a0.set (a1 : Int).toNat v8).length : Nat) : Int)) <|
 (gixN (a0.set (a1 : Int).toNat v8) (a2 : Int).toNat).bind fun v15 =>
 some ((a0.set (a1 : Int).toNat v8).set (a2 : Int).toNat v11)

theorem w__tree_ways_Swap_x (a0 : (List tree_wayT)) (a1 : Int) (a2 : Int) (r : (List tree_wayT)) (h : _tree_ways_Swap_x a0 a1 a2 = some r) : CallW Try.prog 138 [(LV.sl 0 0 (a0.map tree_wayT.cells).length), (I a1), (I a2)] ⟨1, [(0, (.row 102 3 (a0.map tree_wayT.cells)))]⟩ (fun lv H' => lv = (LV.tup []) ∧ H' = ⟨1, [(0, (.row 102 3 (r.map tree_wayT.cells)))]⟩) := by
 unfold _tree_ways_Swap_x at h
 refine CallW.shrinkR (CallW.intro TT_ok Try.func138 rfl rfl [0, 1, 2] rfl ?_)
 conv => whnf
 replace h := grdS h
 obtain ⟨g7, h⟩ := h
 replace g7 : (0 : Int) ≤ a2 ∧ a2 < (((a0.map tree_wayT.cells).length : Nat) : Int) := by simpa only [se_len, se_ch, List.length_map] using g7
 replace h := bindS h
 obtain ⟨v8, hv8, h⟩ := h
 have i9 : nth (a0.map tree_wayT.cells) (0 + ((a2 : Int).toNat)) = some [(I v8.best.c0), (I v8.best.c1), (I v8.at_)] := by simpa only [se_map, se_len, se_ch, List.length_map, nth_eq, Nat.zero_add, List.getElem?_map] using gixNF (f := tree_wayT.cells) hv8
 replace h := grdS h
 obtain ⟨g10, h⟩ := h
 replace g10 : (0 : Int) ≤ a1 ∧ a1 < (((a0.map tree_wayT.cells).length : Nat) : Int) := by simpa only [se_len, se_ch, List.length_map] using g10
 replace h := bindS h
 obtain ⟨v11, hv11, h⟩ := h
 have i12 : nth (a0.map tree_wayT.cells) (0 + ((a1 : Int).toNat)) = some [(I v11.best.c0), (I v11.best.c1), (I v11.at_)] := by simpa only [se_map, se_len, se_ch, List.length_map, nth_eq, Nat.zero_add, List.getElem?_map] using gixNF (f := tree_wayT.cells) hv11
 replace h := grdS h
 obtain ⟨g13, h⟩ := h
 replace g13 : (0 : Int) ≤ a1 ∧ a1 < (((a0.map tree_wayT.cells).length : Nat) : Int) := by simpa only [se_len, se_ch, List.length_map] using g13
 replace h := grdS h
 obtain ⟨g14, h⟩ := h
 replace g14 : (0 : Int) ≤ a2 ∧ a2 < (((a0.map tree_wayT.cells).length : Nat) : Int) := by simpa only [se_len, se_ch, List.length_map] using g14
 replace h := bindS h
 obtain ⟨v15, hv15, h⟩ := h
 have i16 : nth (setN (a0.map tree_wayT.cells) (0 + ((a1 : Int).toNat)) [(I v8.best.c0), (I v8.best.c1), (I v8.at_)]) (0 + ((a2 : Int).toNat)) = some [(I v15.best.c0), (I v15.best.c1), (I v15.at_)] := by simpa only [se_map, se_len, se_ch, List.length_map, nth_eq, Nat.zero_add, List.getElem?_map] using gixNF (f := tree_wayT.cells) hv15
 have e := Option.some.inj h
 subst e
 repeat' first | exact rA _ | exact ⟨[(0, 0)], 1, [(0, (.row 102 3 (((a0.set (a1 : Int).toNat v8).set (a2 : Int).toNat v11).map tree_wayT.cells)))], rfl, ⟨⟨rfl, rfl, .inl ⟨(smT : ((setN (setN (a0.map tree_wayT.cells) (0 + ((a1 : Int).toNat)) [(I v8.best.c0), (I v8.best.c1), (I v8.at_)]) (0 + ((a2 : Int).toNat)) [(I v11.best.c0), (I v11.best.c1), (I v11.at_)]) : List (List LV)) = (((a0.set (a1 : Int).toNat v8).set (a2 : Int).toNat v11).map tree_wayT.cells)), nlT⟩⟩, rfl, rfl, trivial⟩, rfl, rfl, rfl, rfl⟩ | exact g7 | exact g10 | exact g13 | exact g14 | (rw [i9]; conv => whnf) | (rw [i12]; conv => whnf) | (first | (rw [i16]; conv => whnf) | (erw [i16]; conv => whnf)) | (refine W.drawnM (id := 0) 0 TT_ok hmix1 [0, 0, 0, 0, 0, 0, 0, 0, 0, 0, 0, 0, 0, 0, 1, 1] [0, 0, 1, 1, 0, 0, 0, 0, 0, 0, 0, 0, 0, 1, 1, 2] rfl ?_; conv => whnf) | exact clA _ | (refine And.intro ?_ ?_ <;> conv => whnf) | exact clH _ | (refine gand ?_ h; assumption) | exact clN _ | exact clL _ | fail

theorem bifO {α : Type} {c : Bool} {x y : Option α} {z : α} (h : (bif c then x else y) = some z) : x = some z ∨ y = some z := by cases c; exact .inr h; exact .inl h
theorem loopF_inv {ρ σ : Type} {body : σ → Option (Step ρ σ)} (I : σ → Prop) (hs : ∀ s o, I s → body s = some o → match o with | .nxt s' => I s' | .brk s' => I s' | .ret _ => False) :
  ∀ (fuel : Nat) (s : σ) (o : Step ρ σ), I s → loopF fuel body s = some o → match o with | .nxt s' => I s' | .brk _ => False | .ret _ => False
 | 0, s, o, _, h => by simp [loopF] at h
 | n + 1, s, o, hI, h => by
  unfold loopF at h
  obtain ⟨q, hq, h⟩ := bindS h
  have h1 := hs s q hI hq
  cases q with
  | nxt s' => exact loopF_inv I hs n s' o h1 h
  | brk s' => cases h; exact h1
  | ret r => exact h1.elim
theorem _tree_ways_Swap_x_len {a0 : List tree_wayT} {a1 a2 : Int} {r : List tree_wayT} (h : _tree_ways_Swap_x a0 a1 a2 = some r) : r.length = a0.length := by
 unfold _tree_ways_Swap_x at h
 obtain ⟨_, h⟩ := grdS h
 obtain ⟨v8, _, h⟩ := bindS h
 obtain ⟨_, h⟩ := grdS h
 obtain ⟨v11, _, h⟩ := bindS h
 obtain ⟨_, h⟩ := grdS h
 obtain ⟨_, h⟩ := grdS h
 obtain ⟨_, _, h⟩ := bindS h
 cases Option.some.inj h
 simp only [List.length_set]

def container_heap_up_x_c0  (s9 : (Int × (List tree_wayT))) : Option (Step (List tree_wayT) (Int × (List tree_wayT))) :=
 (bif (!(decide ((IntKind.i64.wrap (((IntKind.i64.wrap (s9.1 - 1))).tdiv 2)) = s9.1))) then
  (_tree_ways_Less_x s9.2 s9.1 (IntKind.i64.wrap (((IntKind.i64.wrap (s9.1 - 1))).tdiv 2))).bind fun y5 =>
  (bif (bif (decide ((IntKind.i64.wrap (((IntKind.i64.wrap (s9.1 - 1))).tdiv 2)) = s9.1)) then true else (!y5)) then
   some (.brk (s9.1, s9.2))
  else
   (_tree_ways_Swap_x s9.2 (IntKind.i64.wrap (((IntKind.i64.wrap (s9.1 - 1))).tdiv 2)) s9.1).bind fun y7 =>
   some (.nxt ((IntKind.i64.wrap (((IntKind.i64.wrap (s9.1 - 1))).tdiv 2)), y7)))
 else
  some (.brk (s9.1, s9.2)))

def container_heap_up_x (a0 : (List tree_wayT)) (a1 : Int) : Option (List tree_wayT) :=
 aft (loopF 1000000 (container_heap_up_x_c0 ) (a1, a0)) fun s9 =>
 some s9.2

theorem w_container_heap_up_x (a0 : (List tree_wayT)) (a1 : Int) (r : (List tree_wayT)) (h : container_heap_up_x a0 a1 = some r) : CallW Try.prog 80 [(LV.iface 95 (LV.ptr 0 0 0)), (I a1)] ⟨2, [(0, (.row 97 1 [[(LV.sl 1 0 (a0.map tree_wayT.cells).length)]])), (1, (.row 102 3 (a0.map tree_wayT.cells)))]⟩ (fun lv H' => lv = (LV.tup []) ∧ H' = ⟨3, [(0, (.row 97 1 [[(LV.sl 2 0 (r.map tree_wayT.cells).length)]])), (2, (.row 102 3 (r.map tree_wayT.cells)))]⟩) := by
 unfold container_heap_up_x at h
 refine CallW.shrinkR (CallW.intro TT_ok Try.func80 rfl rfl [0, 1, 4, 17, 999999] rfl ?_)
 conv => whnf
 repeat' first | exact rA _ | refine parkI ?_ | (refine And.intro ?_ ?_ <;> conv => whnf) | exact clL _ | fail
 replace h := aftS h
 obtain ⟨O9, hO9, r9⟩ := h
 refine LoopW.norm [(0, (LV.iface 95 (LV.ptr 0 0 0))), (1, (I (a1, a0).1))] 2 [(0, (.row 97 1 [[(LV.sl 1 0 ((a1, a0).2.map tree_wayT.cells).length)]])), (1, (.row 102 3 ((a1, a0).2.map tree_wayT.cells)))] ⟨rfl, (smT : ((I a1) : LV) = (I (a1, a0).1)), trivial⟩ ⟨⟨(congrArg (fun q => some (Blk.row 97 1 q)) (smT : ([[(LV.sl 1 0 (a0.map tree_wayT.cells).length)]] : List (List LV)) = [[(LV.sl 1 0 ((a1, a0).2.map tree_wayT.cells).length)]])), rfl, blT⟩, ⟨⟨(congrArg (fun q => some (Blk.row 102 3 q)) (smT : ((a0.map tree_wayT.cells) : List (List LV)) = ((a1, a0).2.map tree_wayT.cells))), rfl, NLss_bel (NLss_map' _)⟩, trivial⟩⟩ blT rfl ?_
 refine LoopW.forF (fun s9 => [(0, (LV.iface 95 (LV.ptr 0 0 0))), (1, (I s9.1))]) (fun s9 => ⟨2, [(0, (.row 97 1 [[(LV.sl 1 0 (s9.2.map tree_wayT.cells).length)]])), (1, (.row 102 3 (s9.2.map tree_wayT.cells)))]⟩) hO9 (fun s9 o9 b9 K9 hret9 hbrk9 => ?_)
 unfold container_heap_up_x_c0 at b9
 refine LoopW.round TT_ok [0, 1, 4, 17, 999999] ?_
 conv => whnf
 repeat' first | exact rA _ | refine parkI ?_ | exact (by decide : ((2 : Int) ≠ 0)) | exact clA _ | (refine And.intro ?_ ?_ <;> conv => whnf) | exact clH _ | (refine gand ?_ h; assumption) | exact clL _ | fail
 refine parkE (fun hg2_ => ?_) (fun hg2_ => ?_)
 ·replace b9 := condT (by first | exact hg2_ | simpa only [se_len, se_ch, List.length_map] using hg2_) b9
  conv => whnf
  replace b9 := bindS b9
  obtain ⟨y5, hy5, b9⟩ := b9
  have c6 : CallW Try.prog 135 [(LV.sl 0 0 (s9.2.map tree_wayT.cells).length), (I s9.1), (I (IntKind.i64.wrap (((IntKind.i64.wrap (s9.1 - 1))).tdiv 2)))] ⟨1, [(0, (.row 102 3 (s9.2.map tree_wayT.cells)))]⟩ (fun lv H' => lv = (LV.bool y5) ∧ H' = ⟨1, [(0, (.row 102 3 (s9.2.map tree_wayT.cells)))]⟩) := w__tree_ways_Less_x s9.2 s9.1 (IntKind.i64.wrap (((IntKind.i64.wrap (s9.1 - 1))).tdiv 2)) _ hy5
  repeat' first | exact rA _ | refine parkI ?_ | (refine ⟨_, _, d_95_135.at TT_ok rfl, CallW.frame (nx2 := 2) (l2 := [(1, (.row 102 3 (s9.2.map tree_wayT.cells)))]) [(1, 0)] [(0, 1)] c6 rfl rfl ⟨⟨rfl, rfl, .inl ⟨rfl, nlT⟩⟩, rfl, rfl, trivial⟩ rfl rfl ⟨⟨rfl, rfl, .inl ⟨rfl, nlT⟩⟩, rfl, rfl, trivial⟩ ?_⟩; conv => whnf) | exact clA _ | (refine And.intro ?_ ?_ <;> conv => whnf) | exact clH _ | (refine gand ?_ h; assumption) | exact clN _ | exact clL _ | (intro hq_; conv => whnf) | fail
  refine parkE (fun hc => ?_) (fun hc => ?_)
  ·replace b9 := condT hc b9
   conv => whnf
   have e := Option.some.inj b9
   replace e := hbrk9 _ e.symm
   rw [e] at r9
   dsimp only [aftM] at r9
   have e := Option.some.inj r9
   subst e
   repeat' first | exact rA _ | exact ⟨[(0, 0), (1, 2)], 3, [(0, (.row 97 1 [[(LV.sl 2 0 (s9.2.map tree_wayT.cells).length)]])), (2, (.row 102 3 (s9.2.map tree_wayT.cells)))], rfl, ⟨⟨rfl, rfl, .inr rfl⟩, rfl, rfl, ⟨⟨rfl, rfl, .inl ⟨rfl, nlT⟩⟩, rfl, rfl, trivial⟩⟩, rfl, rfl, rfl, rfl⟩ | exact clA _ | (refine And.intro ?_ ?_ <;> conv => whnf) | exact clH _ | (refine gand ?_ h; assumption) | exact clN _ | exact clL _ | fail
  ·replace b9 := condF hc b9
   conv => whnf
   replace b9 := bindS b9
   obtain ⟨y7, hy7, b9⟩ := b9
   have c8 : CallW Try.prog 138 [(LV.sl 0 0 (s9.2.map tree_wayT.cells).length), (I (IntKind.i64.wrap (((IntKind.i64.wrap (s9.1 - 1))).tdiv 2))), (I s9.1)] ⟨1, [(0, (.row 102 3 (s9.2.map tree_wayT.cells)))]⟩ (fun lv H' => lv = (LV.tup []) ∧ H' = ⟨1, [(0, (.row 102 3 (y7.map tree_wayT.cells)))]⟩) := w__tree_ways_Swap_x s9.2 (IntKind.i64.wrap (((IntKind.i64.wrap (s9.1 - 1))).tdiv 2)) s9.1 _ hy7
   have l9 := _tree_ways_Swap_x_len hy7
   repeat' first | exact rA _ | refine parkI ?_ | (refine ⟨_, _, d_95_138.at TT_ok rfl, CallW.frame (nx2 := 2) (l2 := [(1, (.row 102 3 (y7.map tree_wayT.cells)))]) [(1, 0)] [(0, 1)] c8 rfl rfl ⟨⟨rfl, rfl, .inl ⟨rfl, nlT⟩⟩, rfl, rfl, trivial⟩ rfl rfl ⟨⟨rfl, rfl, .inl ⟨rfl, nlT⟩⟩, rfl, rfl, trivial⟩ ?_⟩; conv => whnf) | exact clA _ | (refine And.intro ?_ ?_ <;> conv => whnf) | exact clN _ | exact clL _ | (intro hq_; conv => whnf) | fail
   have e := Option.some.inj b9
   refine LoopW.norm [(0, (LV.iface 95 (LV.ptr 0 0 0))), (1, (I ((IntKind.i64.wrap (((IntKind.i64.wrap (s9.1 - 1))).tdiv 2)), y7).1))] 2 [(0, (.row 97 1 [[(LV.sl 1 0 (((IntKind.i64.wrap (((IntKind.i64.wrap (s9.1 - 1))).tdiv 2)), y7).2.map tree_wayT.cells).length)]])), (1, (.row 102 3 (((IntKind.i64.wrap (((IntKind.i64.wrap (s9.1 - 1))).tdiv 2)), y7).2.map tree_wayT.cells)))] ⟨rfl, (smT : ((I (IntKind.i64.wrap (((IntKind.i64.wrap (s9.1 - 1))).tdiv 2))) : LV) = (I ((IntKind.i64.wrap (((IntKind.i64.wrap (s9.1 - 1))).tdiv 2)), y7).1)), trivial⟩ ⟨⟨(congrArg (fun q => some (Blk.row 97 1 q)) (smT : ([[(LV.sl 1 0 (s9.2.map tree_wayT.cells).length)]] : List (List LV)) = [[(LV.sl 1 0 (((IntKind.i64.wrap (((IntKind.i64.wrap (s9.1 - 1))).tdiv 2)), y7).2.map tree_wayT.cells).length)]])), rfl, blT⟩, ⟨⟨(congrArg (fun q => some (Blk.row 102 3 q)) (smT : ((y7.map tree_wayT.cells) : List (List LV)) = (((IntKind.i64.wrap (((IntKind.i64.wrap (s9.1 - 1))).tdiv 2)), y7).2.map tree_wayT.cells))), rfl, NLss_bel (NLss_map' _)⟩, trivial⟩⟩ blT rfl (K9 _ e.symm)
 ·replace b9 := condF (by first | exact hg2_ | simpa only [se_len, se_ch, List.length_map] using hg2_) b9
  conv => whnf
  repeat' first | exact rA _ | refine parkI ?_ | exact (by first | exact hg2_ | simpa using hg2_ : _ = false) | (refine ⟨?_, True.intro⟩; first | exact hg2_ | (simpa using hg2_; done)) | exact clA _ | (refine And.intro ?_ ?_ <;> conv => whnf) | exact clH _ | (refine gand ?_ h; assumption) | exact clL _ | (intro hq_; conv => whnf) | fail
  refine parkE (fun hc => ?_) (fun hc => ?_)
  ·conv => whnf
   have e := Option.some.inj b9
   replace e := hbrk9 _ e.symm
   rw [e] at r9
   dsimp only [aftM] at r9
   have e := Option.some.inj r9
   subst e
   repeat' first | exact rA _ | exact ⟨[(0, 0), (1, 2)], 3, [(0, (.row 97 1 [[(LV.sl 2 0 (s9.2.map tree_wayT.cells).length)]])), (2, (.row 102 3 (s9.2.map tree_wayT.cells)))], rfl, ⟨⟨rfl, rfl, .inr rfl⟩, rfl, rfl, ⟨⟨rfl, rfl, .inl ⟨rfl, nlT⟩⟩, rfl, rfl, trivial⟩⟩, rfl, rfl, rfl, rfl⟩ | exact clA _ | (refine And.intro ?_ ?_ <;> conv => whnf) | exact clH _ | (refine gand ?_ h; assumption) | exact clN _ | exact clL _ | fail
  ·exact (Bool.false_ne_true (hc.symm.trans (rfl : true = true))).elim

theorem container_heap_up_x_len {a0 : List tree_wayT} {a1 : Int} {r : List tree_wayT} (h : container_heap_up_x a0 a1 = some r) : r.length = a0.length := by
 unfold container_heap_up_x at h
 obtain ⟨O, hO, h⟩ := aftS h
 have h1 := loopF_inv (fun s : Int × List tree_wayT => s.2.length = a0.length) (fun s o hI hb => by
  unfold container_heap_up_x_c0 at hb
  rcases bifO hb with hb | hb
  ·obtain ⟨_, _, hb⟩ := bindS hb
   rcases bifO hb with hb | hb
   ·cases Option.some.inj hb; exact hI
   ·obtain ⟨_, hy, hb⟩ := bindS hb
    cases Option.some.inj hb; exact (_tree_ways_Swap_x_len hy).trans hI
  ·cases Option.some.inj hb; exact hI) _ _ _ rfl hO
 cases O with
 | nxt s => cases h; exact h1
 | brk s => exact h1.elim
 | ret r => exact h1.elim

def container_heap_Push_x (a0 : (List tree_wayT)) (a1 : tree_wayT) : Option (List tree_wayT) :=
 (tree_ways_Push_x a0 a1).bind fun y1 =>
 (_tree_ways_Len_x y1).bind fun y3 =>
 (container_heap_up_x y1 (IntKind.i64.wrap (y3 - 1))).bind fun y5 =>
 some y5

theorem w_container_heap_Push_x (a0 : (List tree_wayT)) (a1 : tree_wayT) (r : (List tree_wayT)) (h : container_heap_Push_x a0 a1 = some r) : CallW Try.prog 56 [(LV.iface 95 (LV.ptr 0 0 0)), (LV.iface 102 (LV.agg [(I a1.best.c0), (I a1.best.c1), (I a1.at_)]))] ⟨2, [(0, (.row 97 1 [[(LV.sl 1 0 (a0.map tree_wayT.cells).length)]])), (1, (.row 102 3 (a0.map tree_wayT.cells)))]⟩ (fun lv H' => lv = (LV.tup []) ∧ H' = ⟨3, [(0, (.row 97 1 [[(LV.sl 2 0 (r.map tree_wayT.cells).length)]])), (2, (.row 102 3 (r.map tree_wayT.cells)))]⟩) := by
 unfold container_heap_Push_x at h
 refine CallW.shrinkR (CallW.intro TT_ok Try.func56 rfl rfl [0, 1, 999999, 1000080] rfl ?_)
 conv => whnf
 replace h := bindS h
 obtain ⟨y1, hy1, h⟩ := h
 have c2 : CallW Try.prog 137 [(LV.ptr 0 0 0), (LV.iface 102 (LV.agg [(I a1.best.c0), (I a1.best.c1), (I a1.at_)]))] ⟨2, [(0, (.row 97 1 [[(LV.sl 1 0 (a0.map tree_wayT.cells).length)]])), (1, (.row 102 3 (a0.map tree_wayT.cells)))]⟩ (fun lv H' => lv = (LV.tup []) ∧ H' = ⟨3, [(0, (.row 97 1 [[(LV.sl 2 0 (y1.map tree_wayT.cells).length)]])), (2, (.row 102 3 (y1.map tree_wayT.cells)))]⟩) := w_tree_ways_Push_x a0 a1 _ hy1
 replace h := bindS h
 obtain ⟨y3, hy3, h⟩ := h
 have c4 : CallW Try.prog 134 [(LV.sl 0 0 (y1.map tree_wayT.cells).length)] ⟨1, [(0, (.row 102 3 (y1.map tree_wayT.cells)))]⟩ (fun lv H' => lv = (I y3) ∧ H' = ⟨1, [(0, (.row 102 3 (y1.map tree_wayT.cells)))]⟩) := w__tree_ways_Len_x y1 _ hy3
 replace h := bindS h
 obtain ⟨y5, hy5, h⟩ := h
 have c6 : CallW Try.prog 80 [(LV.iface 95 (LV.ptr 0 0 0)), (I (IntKind.i64.wrap (y3 - 1)))] ⟨2, [(0, (.row 97 1 [[(LV.sl 1 0 (y1.map tree_wayT.cells).length)]])), (1, (.row 102 3 (y1.map tree_wayT.cells)))]⟩ (fun lv H' => lv = (LV.tup []) ∧ H' = ⟨3, [(0, (.row 97 1 [[(LV.sl 2 0 (y5.map tree_wayT.cells).length)]])), (2, (.row 102 3 (y5.map tree_wayT.cells)))]⟩) := w_container_heap_up_x y1 (IntKind.i64.wrap (y3 - 1)) _ hy5
 have l7 := container_heap_up_x_len hy5
 have e := Option.some.inj h
 subst e
 repeat' first | exact rA _ | exact ⟨[(0, 0), (3, 2)], 3, [(0, (.row 97 1 [[(LV.sl 2 0 (y5.map tree_wayT.cells).length)]])), (2, (.row 102 3 (y5.map tree_wayT.cells)))], rfl, ⟨⟨rfl, rfl, .inr rfl⟩, rfl, rfl, ⟨⟨rfl, rfl, .inl ⟨rfl, nlT⟩⟩, rfl, rfl, trivial⟩⟩, rfl, rfl, rfl, rfl⟩ | (refine ⟨_, _, m_95_137.at, CallW.frame (nx2 := 3) (l2 := [(0, (.row 97 1 [[(LV.sl 2 0 (y1.map tree_wayT.cells).length)]])), (2, (.row 102 3 (y1.map tree_wayT.cells)))]) [(0, 0), (1, 1)] [(0, 0), (2, 2)] c2 rfl rfl ⟨⟨rfl, rfl, .inr rfl⟩, rfl, rfl, ⟨⟨rfl, rfl, .inl ⟨rfl, nlT⟩⟩, rfl, rfl, trivial⟩⟩ rfl rfl ⟨⟨rfl, rfl, .inr rfl⟩, rfl, rfl, ⟨⟨rfl, rfl, .inl ⟨rfl, nlT⟩⟩, rfl, rfl, trivial⟩⟩ ?_⟩; conv => whnf) | (refine ⟨_, _, d_95_134.at TT_ok rfl, CallW.frame (nx2 := 3) (l2 := [(2, (.row 102 3 (y1.map tree_wayT.cells)))]) [(2, 0)] [(0, 2)] c4 rfl rfl ⟨⟨rfl, rfl, .inl ⟨rfl, nlT⟩⟩, rfl, rfl, trivial⟩ rfl rfl ⟨⟨rfl, rfl, .inl ⟨rfl, nlT⟩⟩, rfl, rfl, trivial⟩ ?_⟩; conv => whnf) | (refine CallW.frame (nx2 := 4) (l2 := [(0, (.row 97 1 [[(LV.sl 3 0 (y5.map tree_wayT.cells).length)]])), (3, (.row 102 3 (y5.map tree_wayT.cells)))]) [(0, 0), (2, 1)] [(0, 0), (2, 3)] c6 rfl rfl ⟨⟨rfl, rfl, .inr rfl⟩, rfl, rfl, ⟨⟨rfl, rfl, .inl ⟨rfl, nlT⟩⟩, rfl, rfl, trivial⟩⟩ rfl rfl ⟨⟨rfl, rfl, .inr rfl⟩, rfl, rfl, ⟨⟨rfl, rfl, .inl ⟨rfl, nlT⟩⟩, rfl, rfl, trivial⟩⟩ ?_; conv => whnf) | exact clA _ | (refine And.intro ?_ ?_ <;> conv => whnf) | exact clH _ | (refine gand ?_ h; assumption) | exact clN _ | exact clL _ | fail

def container_heap_down_x_c0 (a2 : Int) (s10 : (Int × (List tree_wayT))) : Option (Step (Bool × (List tree_wayT)) (Int × (List tree_wayT))) :=
 (bif (bif (decide (a2 ≤ (IntKind.i64.wrap ((IntKind.i64.wrap (2 * s10.1)) + 1)))) then true else (decide ((IntKind.i64.wrap ((IntKind.i64.wrap (2 * s10.1)) + 1)) < 0))) then
  some (.brk (s10.1, s10.2))
 else
  (bif (decide ((IntKind.i64.wrap ((IntKind.i64.wrap ((IntKind.i64.wrap (2 * s10.1)) + 1)) + 1)) < a2)) then
   (_tree_ways_Less_x s10.2 (IntKind.i64.wrap ((IntKind.i64.wrap ((IntKind.i64.wrap (2 * s10.1)) + 1)) + 1)) (IntKind.i64.wrap ((IntKind.i64.wrap (2 * s10.1)) + 1))).bind fun y11 =>
   (bif (bif (decide ((IntKind.i64.wrap ((IntKind.i64.wrap ((IntKind.i64.wrap (2 * s10.1)) + 1)) + 1)) < a2)) then y11 else false) then
    (_tree_ways_Less_x s10.2 (IntKind.i64.wrap ((IntKind.i64.wrap ((IntKind.i64.wrap (2 * s10.1)) + 1)) + 1)) s10.1).bind fun y13 =>
    (bif (!y13) then
     some (.brk (s10.1, s10.2))
    else
     (_tree_ways_Swap_x s10.2 s10.1 (IntKind.i64.wrap ((IntKind.i64.wrap ((IntKind.i64.wrap (2 * s10.1)) + 1)) + 1))).bind fun y15 =>
     some (.nxt ((IntKind.i64.wrap ((IntKind.i64.wrap ((IntKind.i64.wrap (2 * s10.1)) + 1)) + 1)), y15)))
   else
    (_tree_ways_Less_x s10.2 (IntKind.i64.wrap ((IntKind.i64.wrap (2 * s10.1)) + 1)) s10.1).bind fun y18 =>
    (bif (!y18) then
     some (.brk (s10.1, s10.2))
    else
     (_tree_ways_Swap_x s10.2 s10.1 (IntKind.i64.wrap ((IntKind.i64.wrap (2 * s10.1)) + 1))).bind fun y20 =>
     some (.nxt ((IntKind.i64.wrap ((IntKind.i64.wrap (2 * s10.1)) + 1)), y20))))
  else
   (_tree_ways_Less_x s10.2 (IntKind.i64.wrap ((IntKind.i64.wrap (2 * s10.1)) + 1)) s10.1).bind fun y11 =>
   (bif (!y11) then
    some (.brk (s10.1, s10.2))
   else
    (_tree_ways_Swap_x s10.2 s10.1 (IntKind.i64.wrap ((IntKind.i64.wrap (2 * s10.1)) + 1))).bind fun y13 =>
    some (.nxt ((IntKind.i64.wrap ((IntKind.i64.wrap (2 * s10.1)) + 1)), y13)))))

def container_heap_down_x (a0 : (List tree_wayT)) (a1 : Int) (a2 : Int) : Option (Bool × (List tree_wayT)) :=
 aft (loopF 1000000 (container_heap_down_x_c0 a2) (a1, a0)) fun s10 =>
 some ((decide (a1 < s10.1)), s10.2)

theorem w_container_heap_down_x (a0 : (List tree_wayT)) (a1 : Int) (a2 : Int) (r : (Bool × (List tree_wayT))) (h : container_heap_down_x a0 a1 a2 = some r) : CallW Try.prog 81 [(LV.iface 95 (LV.ptr 0 0 0)), (I a1), (I a2)] ⟨2, [(0, (.row 97 1 [[(LV.sl 1 0 (a0.map tree_wayT.cells).length)]])), (1, (.row 102 3 (a0.map tree_wayT.cells)))]⟩ (fun lv H' => lv = (LV.bool r.1) ∧ H' = ⟨3, [(0, (.row 97 1 [[(LV.sl 2 0 (r.2.map tree_wayT.cells).length)]])), (2, (.row 102 3 (r.2.map tree_wayT.cells)))]⟩) := by
 unfold container_heap_down_x at h
 refine CallW.shrinkR (CallW.intro TT_ok Try.func81 rfl rfl [0, 1, 2, 6, 7, 8, 9, 10, 21, 33, 39, 999999] rfl ?_)
 conv => whnf
 repeat' first | exact rA _ | refine parkI ?_ | (refine And.intro ?_ ?_ <;> conv => whnf) | exact clL _ | fail
 replace h := aftS h
 obtain ⟨O10, hO10, r10⟩ := h
 refine LoopW.norm [(0, (LV.iface 95 (LV.ptr 0 0 0))), (1, (I a1)), (2, (I a2)), (7, (I (a1, a0).1))] 2 [(0, (.row 97 1 [[(LV.sl 1 0 ((a1, a0).2.map tree_wayT.cells).length)]])), (1, (.row 102 3 ((a1, a0).2.map tree_wayT.cells)))] ⟨rfl, rfl, rfl, (smT : ((I a1) : LV) = (I (a1, a0).1)), trivial⟩ ⟨⟨(congrArg (fun q => some (Blk.row 97 1 q)) (smT : ([[(LV.sl 1 0 (a0.map tree_wayT.cells).length)]] : List (List LV)) = [[(LV.sl 1 0 ((a1, a0).2.map tree_wayT.cells).length)]])), rfl, blT⟩, ⟨⟨(congrArg (fun q => some (Blk.row 102 3 q)) (smT : ((a0.map tree_wayT.cells) : List (List LV)) = ((a1, a0).2.map tree_wayT.cells))), rfl, NLss_bel (NLss_map' _)⟩, trivial⟩⟩ blT rfl ?_
 refine LoopW.forF (fun s10 => [(0, (LV.iface 95 (LV.ptr 0 0 0))), (1, (I a1)), (2, (I a2)), (7, (I s10.1))]) (fun s10 => ⟨2, [(0, (.row 97 1 [[(LV.sl 1 0 (s10.2.map tree_wayT.cells).length)]])), (1, (.row 102 3 (s10.2.map tree_wayT.cells)))]⟩) hO10 (fun s10 o10 b10 K10 hret10 hbrk10 => ?_)
 unfold container_heap_down_x_c0 at b10
 refine LoopW.round TT_ok [0, 1, 2, 6, 7, 8, 9, 10, 21, 33, 39, 999999] ?_
 conv => whnf
 repeat' first | exact rA _ | refine parkI ?_ | exact clA _ | (refine And.intro ?_ ?_ <;> conv => whnf) | exact clH _ | (refine gand ?_ h; assumption) | exact clL _ | fail
 refine parkE (fun hc => ?_) (fun hc => ?_)
 ·replace b10 := condT hc b10
  conv => whnf
  have e := Option.some.inj b10
  replace e := hbrk10 _ e.symm
  rw [e] at r10
  dsimp only [aftM] at r10
  have e := Option.some.inj r10
  subst e
  repeat' first | exact rA _ | exact ⟨[(0, 0), (1, 2)], 3, [(0, (.row 97 1 [[(LV.sl 2 0 (s10.2.map tree_wayT.cells).length)]])), (2, (.row 102 3 (s10.2.map tree_wayT.cells)))], rfl, ⟨⟨rfl, rfl, .inr rfl⟩, rfl, rfl, ⟨⟨rfl, rfl, .inl ⟨rfl, nlT⟩⟩, rfl, rfl, trivial⟩⟩, rfl, rfl, rfl, rfl⟩ | exact clA _ | (refine And.intro ?_ ?_ <;> conv => whnf) | exact clH _ | (refine gand ?_ h; assumption) | exact clN _ | exact clL _ | fail
 ·replace b10 := condF hc b10
  conv => whnf
  repeat' first | exact rA _ | refine parkI ?_ | exact clA _ | (refine And.intro ?_ ?_ <;> conv => whnf) | exact clH _ | (refine gand ?_ h; assumption) | exact clL _ | fail
  refine parkE (fun hg4_ => ?_) (fun hg4_ => ?_)
  ·replace b10 := condT (by first | exact hg4_ | simpa only [se_len, se_ch, List.length_map] using hg4_) b10
   conv => whnf
   replace b10 := bindS b10
   obtain ⟨y11, hy11, b10⟩ := b10
   have c12 : CallW Try.prog 135 [(LV.sl 0 0 (s10.2.map tree_wayT.cells).length), (I (IntKind.i64.wrap ((IntKind.i64.wrap ((IntKind.i64.wrap (2 * s10.1)) + 1)) + 1))), (I (IntKind.i64.wrap ((IntKind.i64.wrap (2 * s10.1)) + 1)))] ⟨1, [(0, (.row 102 3 (s10.2.map tree_wayT.cells)))]⟩ (fun lv H' => lv = (LV.bool y11) ∧ H' = ⟨1, [(0, (.row 102 3 (s10.2.map tree_wayT.cells)))]⟩) := w__tree_ways_Less_x s10.2 (IntKind.i64.wrap ((IntKind.i64.wrap ((IntKind.i64.wrap (2 * s10.1)) + 1)) + 1)) (IntKind.i64.wrap ((IntKind.i64.wrap (2 * s10.1)) + 1)) _ hy11
   repeat' first | exact rA _ | refine parkI ?_ | (refine ⟨_, _, d_95_135.at TT_ok rfl, CallW.frame (nx2 := 2) (l2 := [(1, (.row 102 3 (s10.2.map tree_wayT.cells)))]) [(1, 0)] [(0, 1)] c12 rfl rfl ⟨⟨rfl, rfl, .inl ⟨rfl, nlT⟩⟩, rfl, rfl, trivial⟩ rfl rfl ⟨⟨rfl, rfl, .inl ⟨rfl, nlT⟩⟩, rfl, rfl, trivial⟩ ?_⟩; conv => whnf) | exact clA _ | (refine And.intro ?_ ?_ <;> conv => whnf) | exact clH _ | (refine gand ?_ h; assumption) | exact clN _ | exact clL _ | (intro hq_; conv => whnf) | fail
   refine parkE (fun hc => ?_) (fun hc => ?_)
   ·replace b10 := condT hc b10
    conv => whnf
    replace b10 := bindS b10
    obtain ⟨y13, hy13, b10⟩ := b10
    have c14 : CallW Try.prog 135 [(LV.sl 0 0 (s10.2.map tree_wayT.cells).length), (I (IntKind.i64.wrap ((IntKind.i64.wrap ((IntKind.i64.wrap (2 * s10.1)) + 1)) + 1))), (I s10.1)] ⟨1, [(0, (.row 102 3 (s10.2.map tree_wayT.cells)))]⟩ (fun lv H' => lv = (LV.bool y13) ∧ H' = ⟨1, [(0, (.row 102 3 (s10.2.map tree_wayT.cells)))]⟩) := w__tree_ways_Less_x s10.2 (IntKind.i64.wrap ((IntKind.i64.wrap ((IntKind.i64.wrap (2 * s10.1)) + 1)) + 1)) s10.1 _ hy13
    repeat' first | exact rA _ | refine parkI ?_ | (refine ⟨_, _, d_95_135.at TT_ok rfl, CallW.frame (nx2 := 2) (l2 := [(1, (.row 102 3 (s10.2.map tree_wayT.cells)))]) [(1, 0)] [(0, 1)] c14 rfl rfl ⟨⟨rfl, rfl, .inl ⟨rfl, nlT⟩⟩, rfl, rfl, trivial⟩ rfl rfl ⟨⟨rfl, rfl, .inl ⟨rfl, nlT⟩⟩, rfl, rfl, trivial⟩ ?_⟩; conv => whnf) | exact clA _ | (refine And.intro ?_ ?_ <;> conv => whnf) | exact clN _ | exact clL _ | (intro hq_; conv => whnf) | fail
    refine parkE (fun hc => ?_) (fun hc => ?_)
    ·replace b10 := condT hc b10
     conv => whnf
     have e := Option.some.inj b10
     replace e := hbrk10 _ e.symm
     rw [e] at r10
     dsimp only [aftM] at r10
     have e := Option.some.inj r10
     subst e
     repeat' first | exact rA _ | exact ⟨[(0, 0), (1, 2)], 3, [(0, (.row 97 1 [[(LV.sl 2 0 (s10.2.map tree_wayT.cells).length)]])), (2, (.row 102 3 (s10.2.map tree_wayT.cells)))], rfl, ⟨⟨rfl, rfl, .inr rfl⟩, rfl, rfl, ⟨⟨rfl, rfl, .inl ⟨rfl, nlT⟩⟩, rfl, rfl, trivial⟩⟩, rfl, rfl, rfl, rfl⟩ | exact clA _ | (refine And.intro ?_ ?_ <;> conv => whnf) | exact clH _ | (refine gand ?_ h; assumption) | exact clN _ | exact clL _ | fail
    ·replace b10 := condF hc b10
     conv => whnf
     replace b10 := bindS b10
     obtain ⟨y15, hy15, b10⟩ := b10
     have c16 : CallW Try.prog 138 [(LV.sl 0 0 (s10.2.map tree_wayT.cells).length), (I s10.1), (I (IntKind.i64.wrap ((IntKind.i64.wrap ((IntKind.i64.wrap (2 * s10.1)) + 1)) + 1)))] ⟨1, [(0, (.row 102 3 (s10.2.map tree_wayT.cells)))]⟩ (fun lv H' => lv = (LV.tup []) ∧ H' = ⟨1, [(0, (.row 102 3 (y15.map tree_wayT.cells)))]⟩) := w__tree_ways_Swap_x s10.2 s10.1 (IntKind.i64.wrap ((IntKind.i64.wrap ((IntKind.i64.wrap (2 * s10.1)) + 1)) + 1)) _ hy15
     have l17 := _tree_ways_Swap_x_len hy15
     repeat' first | exact rA _ | refine parkI ?_ | (refine ⟨_, _, d_95_138.at TT_ok rfl, CallW.frame (nx2 := 2) (l2 := [(1, (.row 102 3 (y15.map tree_wayT.cells)))]) [(1, 0)] [(0, 1)] c16 rfl rfl ⟨⟨rfl, rfl, .inl ⟨rfl, nlT⟩⟩, rfl, rfl, trivial⟩ rfl rfl ⟨⟨rfl, rfl, .inl ⟨rfl, nlT⟩⟩, rfl, rfl, trivial⟩ ?_⟩; conv => whnf) | exact clA _ | (refine And.intro ?_ ?_ <;> conv => whnf) | exact clN _ | exact clL _ | (intro hq_; conv => whnf) | fail
     have e := Option.some.inj b10
     refine LoopW.norm [(0, (LV.iface 95 (LV.ptr 0 0 0))), (1, (I a1)), (2, (I a2)), (7, (I ((IntKind.i64.wrap ((IntKind.i64.wrap ((IntKind.i64.wrap (2 * s10.1)) + 1)) + 1)), y15).1))] 2 [(0, (.row 97 1 [[(LV.sl 1 0 (((IntKind.i64.wrap ((IntKind.i64.wrap ((IntKind.i64.wrap (2 * s10.1)) + 1)) + 1)), y15).2.map tree_wayT.cells).length)]])), (1, (.row 102 3 (((IntKind.i64.wrap ((IntKind.i64.wrap ((IntKind.i64.wrap (2 * s10.1)) + 1)) + 1)), y15).2.map tree_wayT.cells)))] ⟨rfl, rfl, rfl, (smT : ((I (IntKind.i64.wrap ((IntKind.i64.wrap ((IntKind.i64.wrap (2 * s10.1)) + 1)) + 1))) : LV) = (I ((IntKind.i64.wrap ((IntKind.i64.wrap ((IntKind.i64.wrap (2 * s10.1)) + 1)) + 1)), y15).1)), trivial⟩ ⟨⟨(congrArg (fun q => some (Blk.row 97 1 q)) (smT : ([[(LV.sl 1 0 (s10.2.map tree_wayT.cells).length)]] : List (List LV)) = [[(LV.sl 1 0 (((IntKind.i64.wrap ((IntKind.i64.wrap ((IntKind.i64.wrap (2 * s10.1)) + 1)) + 1)), y15).2.map tree_wayT.cells).length)]])), rfl, blT⟩, ⟨⟨(congrArg (fun q => some (Blk.row 102 3 q)) (smT : ((y15.map tree_wayT.cells) : List (List LV)) = (((IntKind.i64.wrap ((IntKind.i64.wrap ((IntKind.i64.wrap (2 * s10.1)) + 1)) + 1)), y15).2.map tree_wayT.cells))), rfl, NLss_bel (NLss_map' _)⟩, trivial⟩⟩ blT rfl (K10 _ e.symm)
   ·replace b10 := condF hc b10
    conv => whnf
    replace b10 := bindS b10
    obtain ⟨y18, hy18, b10⟩ := b10
    have c19 : CallW Try.prog 135 [(LV.sl 0 0 (s10.2.map tree_wayT.cells).length), (I (IntKind.i64.wrap ((IntKind.i64.wrap (2 * s10.1)) + 1))), (I s10.1)] ⟨1, [(0, (.row 102 3 (s10.2.map tree_wayT.cells)))]⟩ (fun lv H' => lv = (LV.bool y18) ∧ H' = ⟨1, [(0, (.row 102 3 (s10.2.map tree_wayT.cells)))]⟩) := w__tree_ways_Less_x s10.2 (IntKind.i64.wrap ((IntKind.i64.wrap (2 * s10.1)) + 1)) s10.1 _ hy18
    repeat' first | exact rA _ | refine parkI ?_ | (refine ⟨_, _, d_95_135.at TT_ok rfl, CallW.frame (nx2 := 2) (l2 := [(1, (.row 102 3 (s10.2.map tree_wayT.cells)))]) [(1, 0)] [(0, 1)] c19 rfl rfl ⟨⟨rfl, rfl, .inl ⟨rfl, nlT⟩⟩, rfl, rfl, trivial⟩ rfl rfl ⟨⟨rfl, rfl, .inl ⟨rfl, nlT⟩⟩, rfl, rfl, trivial⟩ ?_⟩; conv => whnf) | exact clA _ | (refine And.intro ?_ ?_ <;> conv => whnf) | exact clN _ | exact clL _ | (intro hq_; conv => whnf) | fail
    refine parkE (fun hc => ?_) (fun hc => ?_)
    ·replace b10 := condT hc b10
     conv => whnf
     have e := Option.some.inj b10
     replace e := hbrk10 _ e.symm
     rw [e] at r10
     dsimp only [aftM] at r10
     have e := Option.some.inj r10
     subst e
     repeat' first | exact rA _ | exact ⟨[(0, 0), (1, 2)], 3, [(0, (.row 97 1 [[(LV.sl 2 0 (s10.2.map tree_wayT.cells).length)]])), (2, (.row 102 3 (s10.2.map tree_wayT.cells)))], rfl, ⟨⟨rfl, rfl, .inr rfl⟩, rfl, rfl, ⟨⟨rfl, rfl, .inl ⟨rfl, nlT⟩⟩, rfl, rfl, trivial⟩⟩, rfl, rfl, rfl, rfl⟩ | exact clA _ | (refine And.intro ?_ ?_ <;> conv => whnf) | exact clH _ | (refine gand ?_ h; assumption) | exact clN _ | exact clL _ | fail
    ·replace b10 := condF hc b10
     conv => whnf
     replace b10 := bindS b10
     obtain ⟨y20, hy20, b10⟩ := b10
     have c21 : CallW Try.prog 138 [(LV.sl 0 0 (s10.2.map tree_wayT.cells).length), (I s10.1), (I (IntKind.i64.wrap ((IntKind.i64.wrap (2 * s10.1)) + 1)))] ⟨1, [(0, (.row 102 3 (s10.2.map tree_wayT.cells)))]⟩ (fun lv H' => lv = (LV.tup []) ∧ H' = ⟨1, [(0, (.row 102 3 (y20.map tree_wayT.cells)))]⟩) := w__tree_ways_Swap_x s10.2 s10.1 (IntKind.i64.wrap ((IntKind.i64.wrap (2 * s10.1)) + 1)) _ hy20
     have l22 := _tree_ways_Swap_x_len hy20
     repeat' first | exact rA _ | refine parkI ?_ | (refine ⟨_, _, d_95_138.at TT_ok rfl, CallW.frame (nx2 := 2) (l2 := [(1, (.row 102 3 (y20.map tree_wayT.cells)))]) [(1, 0)] [(0, 1)] c21 rfl rfl ⟨⟨rfl, rfl, .inl ⟨rfl, nlT⟩⟩, rfl, rfl, trivial⟩ rfl rfl ⟨⟨rfl, rfl, .inl ⟨rfl, nlT⟩⟩, rfl, rfl, trivial⟩ ?_⟩; conv => whnf) | exact clA _ | (refine And.intro ?_ ?_ <;> conv => whnf) | exact clN _ | exact clL _ | (intro hq_; conv => whnf) | fail
     have e := Option.some.inj b10
     refine LoopW.norm [(0, (LV.iface 95 (LV.ptr 0 0 0))), (1, (I a1)), (2, (I a2)), (7, (I ((IntKind.i64.wrap ((IntKind.i64.wrap (2 * s10.1)) + 1)), y20).1))] 2 [(0, (.row 97 1 [[(LV.sl 1 0 (((IntKind.i64.wrap ((IntKind.i64.wrap (2 * s10.1)) + 1)), y20).2.map tree_wayT.cells).length)]])), (1, (.row 102 3 (((IntKind.i64.wrap ((IntKind.i64.wrap (2 * s10.1)) + 1)), y20).2.map tree_wayT.cells)))] ⟨rfl, rfl, rfl, (smT : ((I (IntKind.i64.wrap ((IntKind.i64.wrap (2 * s10.1)) + 1))) : LV) = (I ((IntKind.i64.wrap ((IntKind.i64.wrap (2 * s10.1)) + 1)), y20).1)), trivial⟩ ⟨⟨(congrArg (fun q => some (Blk.row 97 1 q)) (smT : ([[(LV.sl 1 0 (s10.2.map tree_wayT.cells).length)]] : List (List LV)) = [[(LV.sl 1 0 (((IntKind.i64.wrap ((IntKind.i64.wrap (2 * s10.1)) + 1)), y20).2.map tree_wayT.cells).length)]])), rfl, blT⟩, ⟨⟨(congrArg (fun q => some (Blk.row 102 3 q)) (smT : ((y20.map tree_wayT.cells) : List (List LV)) = (((IntKind.i64.wrap ((IntKind.i64.wrap (2 * s10.1)) + 1)), y20).2.map tree_wayT.cells))), rfl, NLss_bel (NLss_map' _)⟩, trivial⟩⟩ blT rfl (K10 _ e.symm)
  ·replace b10 := condF (by first | exact hg4_ | simpa only [se_len, se_ch, List.length_map] using hg4_) b10
   conv => whnf
   repeat' first | exact rA _ | refine parkI ?_ | (refine ⟨?_, True.intro⟩; first | exact hg4_ | (simpa using hg4_; done)) | exact clA _ | (refine And.intro ?_ ?_ <;> conv => whnf) | exact clH _ | (refine gand ?_ h; assumption) | exact clL _ | (intro hq_; conv => whnf) | fail
   refine parkE (fun hc => ?_) (fun hc => ?_)
   ·exact (Bool.false_ne_true (((rfl : false = false)).symm.trans hc)).elim
   ·conv => whnf
    replace b10 := bindS b10
    obtain ⟨y11, hy11, b10⟩ := b10
    have c12 : CallW Try.prog 135 [(LV.sl 0 0 (s10.2.map tree_wayT.cells).length), (I (IntKind.i64.wrap ((IntKind.i64.wrap (2 * s10.1)) + 1))), (I s10.1)] ⟨1, [(0, (.row 102 3 (s10.2.map tree_wayT.cells)))]⟩ (fun lv H' => lv = (LV.bool y11) ∧ H' = ⟨1, [(0, (.row 102 3 (s10.2.map tree_wayT.cells)))]⟩) := w__tree_ways_Less_x s10.2 (IntKind.i64.wrap ((IntKind.i64.wrap (2 * s10.1)) + 1)) s10.1 _ hy11
    repeat' first | exact rA _ | refine parkI ?_ | (refine ⟨_, _, d_95_135.at TT_ok rfl, CallW.frame (nx2 := 2) (l2 := [(1, (.row 102 3 (s10.2.map tree_wayT.cells)))]) [(1, 0)] [(0, 1)] c12 rfl rfl ⟨⟨rfl, rfl, .inl ⟨rfl, nlT⟩⟩, rfl, rfl, trivial⟩ rfl rfl ⟨⟨rfl, rfl, .inl ⟨rfl, nlT⟩⟩, rfl, rfl, trivial⟩ ?_⟩; conv => whnf) | exact clA _ | (refine And.intro ?_ ?_ <;> conv => whnf) | exact clN _ | exact clL _ | (intro hq_; conv => whnf) | fail
    refine parkE (fun hc => ?_) (fun hc => ?_)
    ·replace b10 := condT hc b10
     conv => whnf
     have e := Option.some.inj b10
     replace e := hbrk10 _ e.symm
     rw [e] at r10
     dsimp only [aftM] at r10
     have e := Option.some.inj r10
     subst e
     repeat' first | exact rA _ | exact ⟨[(0, 0), (1, 2)], 3, [(0, (.row 97 1 [[(LV.sl 2 0 (s10.2.map tree_wayT.cells).length)]])), (2, (.row 102 3 (s10.2.map tree_wayT.cells)))], rfl, ⟨⟨rfl, rfl, .inr rfl⟩, rfl, rfl, ⟨⟨rfl, rfl, .inl ⟨rfl, nlT⟩⟩, rfl, rfl, trivial⟩⟩, rfl, rfl, rfl, rfl⟩ | exact clA _ | (refine And.intro ?_ ?_ <;> conv => whnf) | exact clH _ | (refine gand ?_ h; assumption) | exact clN _ | exact clL _ | fail
    ·replace b10 := condF hc b10
     conv => whnf
     replace b10 := bindS b10
     obtain ⟨y13, hy13, b10⟩ := b10
     have c14 : CallW Try.prog 138 [(LV.sl 0 0 (s10.2.map tree_wayT.cells).length), (I s10.1), (I (IntKind.i64.wrap ((IntKind.i64.wrap (2 * s10.1)) + 1)))] ⟨1, [(0, (.row 102 3 (s10.2.map tree_wayT.cells)))]⟩ (fun lv H' => lv = (LV.tup []) ∧ H' = ⟨1, [(0, (.row 102 3 (y13.map tree_wayT.cells)))]⟩) := w__tree_ways_Swap_x s10.2 s10.1 (IntKind.i64.wrap ((IntKind.i64.wrap (2 * s10.1)) + 1)) _ hy13
     have l15 := _tree_ways_Swap_x_len hy13
     repeat' first | exact rA _ | refine parkI ?_ | (refine ⟨_, _, d_95_138.at TT_ok rfl, CallW.frame (nx2 := 2) (l2 := [(1, (.row 102 3 (y13.map tree_wayT.cells)))]) [(1, 0)] [(0, 1)] c14 rfl rfl ⟨⟨rfl, rfl, .inl ⟨rfl, nlT⟩⟩, rfl, rfl, trivial⟩ rfl rfl ⟨⟨rfl, rfl, .inl ⟨rfl, nlT⟩⟩, rfl, rfl, trivial⟩ ?_⟩; conv => whnf) | exact clA _ | (refine And.intro ?_ ?_ <;> conv => whnf) | exact clN _ | exact clL _ | (intro hq_; conv => whnf) | fail
     have e := Option.some.inj b10
     refine LoopW.norm [(0, (LV.iface 95 (LV.ptr 0 0 0))), (1, (I a1)), (2, (I a2)), (7, (I ((IntKind.i64.wrap ((IntKind.i64.wrap (2 * s10.1)) + 1)), y13).1))] 2 [(0, (.row 97 1 [[(LV.sl 1 0 (((IntKind.i64.wrap ((IntKind.i64.wrap (2 * s10.1)) + 1)), y13).2.map tree_wayT.cells).length)]])), (1, (.row 102 3 (((IntKind.i64.wrap ((IntKind.i64.wrap (2 * s10.1)) + 1)), y13).2.map tree_wayT.cells)))] ⟨rfl, rfl, rfl, (smT : ((I (IntKind.i64.wrap ((IntKind.i64.wrap (2 * s10.1)) + 1))) : LV) = (I ((IntKind.i64.wrap ((IntKind.i64.wrap (2 * s10.1)) + 1)), y13).1)), trivial⟩ ⟨⟨(congrArg (fun q => some (Blk.row 97 1 q)) (smT : ([[(LV.sl 1 0 (s10.2.map tree_wayT.cells).length)]] : List (List LV)) = [[(LV.sl 1 0 (((IntKind.i64.wrap ((IntKind.i64.wrap (2 * s10.1)) + 1)), y13).2.map tree_wayT.cells).length)]])), rfl, blT⟩, ⟨⟨(congrArg (fun q => some (Blk.row 102 3 q)) (smT : ((y13.map tree_wayT.cells) : List (List LV)) = (((IntKind.i64.wrap ((IntKind.i64.wrap (2 * s10.1)) + 1)), y13).2.map tree_wayT.cells))), rfl, NLss_bel (NLss_map' _)⟩, trivial⟩⟩ blT rfl (K10 _ e.symm)

theorem container_heap_down_x_len {a0 : List tree_wayT} {a1 a2 : Int} {r : Bool × List tree_wayT} (h : container_heap_down_x a0 a1 a2 = some r) : r.2.length = a0.length := by
 unfold container_heap_down_x at h
 obtain ⟨O, hO, h⟩ := aftS h
 have h1 := loopF_inv (fun s : Int × List tree_wayT => s.2.length = a0.length) (fun s o hI hb => by
  unfold container_heap_down_x_c0 at hb
  rcases bifO hb with hb | hb
  ·cases Option.some.inj hb; exact hI
  ·rcases bifO hb with hb | hb
   ·obtain ⟨_, _, hb⟩ := bindS hb
    rcases bifO hb with hb | hb
    ·obtain ⟨_, _, hb⟩ := bindS hb
     rcases bifO hb with hb | hb
     ·cases Option.some.inj hb; exact hI
     ·obtain ⟨_, hy, hb⟩ := bindS hb
      cases Option.some.inj hb; exact (_tree_ways_Swap_x_len hy).trans hI
    ·obtain ⟨_, _, hb⟩ := bindS hb
     rcases bifO hb with hb | hb
     ·cases Option.some.inj hb; exact hI
     ·obtain ⟨_, hy, hb⟩ := bindS hb
      cases Option.some.inj hb; exact (_tree_ways_Swap_x_len hy).trans hI
   ·obtain ⟨_, _, hb⟩ := bindS hb
    rcases bifO hb with hb | hb
    ·cases Option.some.inj hb; exact hI
    ·obtain ⟨_, hy, hb⟩ := bindS hb
     cases Option.some.inj hb; exact (_tree_ways_Swap_x_len hy).trans hI) _ _ _ rfl hO
 cases O with
 | nxt s => cases h; exact h1
 | brk s => exact h1.elim
 | ret r => exact h1.elim

theorem m_95_136 : MethodIs Try.prog 95 "Pop" 136 := fun v w => by kernel_rfl

def tree_ways_Pop_x (a0 : (List tree_wayT)) : Option (tree_wayT × (List tree_wayT)) :=
 grd ((0 : Int) ≤ (IntKind.i64.wrap (((a0.length : Nat) : Int) - 1)) ∧ (IntKind.i64.wrap (((a0.length : Nat) : Int) - 1)) < ((a0.length : Nat) : Int)) <|
 (gixN a0 ((IntKind.i64.wrap (((a0.length : Nat) : Int) - 1)) : Int).toNat).bind fun v16 =>
 grd ((0 : Int) ≤ (IntKind.i64.wrap (((a0.length : Nat) : Int) - 1)) ∧ (IntKind.i64.wrap (((a0.length : Nat) : Int) - 1)) ≤ ((a0.length : Nat) : Int)) <|
 some (v16, (a0.take ((IntKind.i64.wrap (((a0.length : Nat) : Int) - 1)) : Int).toNat))

theorem w_tree_ways_Pop_x (a0 : (List tree_wayT)) (r : (tree_wayT × (List tree_wayT))) (h : tree_ways_Pop_x a0 = some r) : CallW Try.prog 136 [(LV.ptr 0 0 0)] ⟨2, [(0, (.row 97 1 [[(LV.sl 1 0 (a0.map tree_wayT.cells).length)]])), (1, (.row 102 3 (a0.map tree_wayT.cells)))]⟩ (fun lv H' => lv = (LV.iface 102 (LV.agg [(I r.1.best.c0), (I r.1.best.c1), (I r.1.at_)])) ∧ H' = ⟨3, [(0, (.row 97 1 [[(LV.sl 2 0 (r.2.map tree_wayT.cells).length)]])), (2, (.row 102 3 (r.2.map tree_wayT.cells)))]⟩) := by
 unfold tree_ways_Pop_x at h
 refine CallW.shrinkR (CallW.intro TT_ok Try.func136 rfl rfl [0, 2, 3, 4, 5000019] rfl ?_)
 conv => whnf
 replace h := grdS h
 obtain ⟨g15, h⟩ := h
 replace g15 : (0 : Int) ≤ (IntKind.i64.wrap ((((a0.map tree_wayT.cells).length : Nat) : Int) - 1)) ∧ (IntKind.i64.wrap ((((a0.map tree_wayT.cells).length : Nat) : Int) - 1)) < (((a0.map tree_wayT.cells).length : Nat) : Int) := by simpa only [se_len, se_ch, List.length_map] using g15
 replace h := bindS h
 obtain ⟨v16, hv16, h⟩ := h
 have i17 : nth (a0.map tree_wayT.cells) (0 + (((IntKind.i64.wrap ((((a0.map tree_wayT.cells).length : Nat) : Int) - 1)) : Int).toNat)) = some [(I v16.best.c0), (I v16.best.c1), (I v16.at_)] := by simpa only [se_map, se_len, se_ch, List.length_map, nth_eq, Nat.zero_add, List.getElem?_map] using gixNF (f := tree_wayT.cells) hv16
 replace h := grdS h
 obtain ⟨g18, h⟩ := h
 replace g18 : (0 : Int) ≤ (IntKind.i64.wrap ((((a0.map tree_wayT.cells).length : Nat) : Int) - 1)) ∧ (IntKind.i64.wrap ((((a0.map tree_wayT.cells).length : Nat) : Int) - 1)) ≤ (((a0.map tree_wayT.cells).length : Nat) : Int) := by simpa only [se_len, se_ch, List.length_map] using g18
 have e := Option.some.inj h
 subst e
 repeat' first | exact rA _ | exact ⟨[(0, 0), (1, 2)], 3, [(0, (.row 97 1 [[(LV.sl 2 0 ((a0.take ((IntKind.i64.wrap (((a0.length : Nat) : Int) - 1)) : Int).toNat).map tree_wayT.cells).length)]])), (2, (.row 102 3 ((a0.take ((IntKind.i64.wrap (((a0.length : Nat) : Int) - 1)) : Int).toNat).map tree_wayT.cells)))], rfl, ⟨⟨rfl, rfl, .inr (by first | exact rfl | (show ([[(LV.sl 2 0 ((IntKind.i64.wrap ((((a0.map tree_wayT.cells).length : Nat) : Int) - 1)) : Int).toNat)]] : List (List LV)) = [[(LV.sl 2 0 ((a0.take ((IntKind.i64.wrap (((a0.length : Nat) : Int) - 1)) : Int).toNat).map tree_wayT.cells).length)]]; exact smT))⟩, rfl, rfl, ⟨⟨rfl, rfl, .inl ⟨(smT : (((a0.map tree_wayT.cells).take ((IntKind.i64.wrap ((((a0.map tree_wayT.cells).length : Nat) : Int) - 1)) : Int).toNat) : List (List LV)) = ((a0.take ((IntKind.i64.wrap (((a0.length : Nat) : Int) - 1)) : Int).toNat).map tree_wayT.cells)), nlT⟩⟩, rfl, rfl, trivial⟩⟩, rfl, rfl, rfl, rfl⟩ | exact g15 | exact g18 | (rw [i17]; conv => whnf) | exact clA _ | (refine And.intro ?_ ?_ <;> conv => whnf) | exact clH _ | (refine gand ?_ h; assumption) | exact clN _ | exact clL _ | fail

def container_heap_Pop_x (a0 : (List tree_wayT)) : Option (tree_wayT × (List tree_wayT)) :=
 (_tree_ways_Len_x a0).bind fun y6 =>
 (_tree_ways_Swap_x a0 0 (IntKind.i64.wrap (y6 - 1))).bind fun y8 =>
 (container_heap_down_x y8 0 (IntKind.i64.wrap (y6 - 1))).bind fun y11 =>
 (tree_ways_Pop_x y11.2).bind fun y15 =>
 some (y15.1, y15.2)

theorem w_container_heap_Pop_x (a0 : (List tree_wayT)) (r : (tree_wayT × (List tree_wayT))) (h : container_heap_Pop_x a0 = some r) : CallW Try.prog 57 [(LV.iface 95 (LV.ptr 0 0 0))] ⟨2, [(0, (.row 97 1 [[(LV.sl 1 0 (a0.map tree_wayT.cells).length)]])), (1, (.row 102 3 (a0.map tree_wayT.cells)))]⟩ (fun lv H' => lv = (LV.iface 102 (LV.agg [(I r.1.best.c0), (I r.1.best.c1), (I r.1.at_)])) ∧ H' = ⟨3, [(0, (.row 97 1 [[(LV.sl 2 0 (r.2.map tree_wayT.cells).length)]])), (2, (.row 102 3 (r.2.map tree_wayT.cells)))]⟩) := by
 unfold container_heap_Pop_x at h
 refine CallW.shrinkR (CallW.intro TT_ok Try.func57 rfl rfl [0, 2, 3, 999999, 1000081] rfl ?_)
 conv => whnf
 replace h := bindS h
 obtain ⟨y6, hy6, h⟩ := h
 have c7 : CallW Try.prog 134 [(LV.sl 0 0 (a0.map tree_wayT.cells).length)] ⟨1, [(0, (.row 102 3 (a0.map tree_wayT.cells)))]⟩ (fun lv H' => lv = (I y6) ∧ H' = ⟨1, [(0, (.row 102 3 (a0.map tree_wayT.cells)))]⟩) := w__tree_ways_Len_x a0 _ hy6
 replace h := bindS h
 obtain ⟨y8, hy8, h⟩ := h
 have c9 : CallW Try.prog 138 [(LV.sl 0 0 (a0.map tree_wayT.cells).length), (I 0), (I (IntKind.i64.wrap (y6 - 1)))] ⟨1, [(0, (.row 102 3 (a0.map tree_wayT.cells)))]⟩ (fun lv H' => lv = (LV.tup []) ∧ H' = ⟨1, [(0, (.row 102 3 (y8.map tree_wayT.cells)))]⟩) := w__tree_ways_Swap_x a0 0 (IntKind.i64.wrap (y6 - 1)) _ hy8
 have l10 := _tree_ways_Swap_x_len hy8
 replace h := bindS h
 obtain ⟨y11, hy11, h⟩ := h
 have c12 : CallW Try.prog 81 [(LV.iface 95 (LV.ptr 0 0 0)), (I 0), (I (IntKind.i64.wrap (y6 - 1)))] ⟨2, [(0, (.row 97 1 [[(LV.sl 1 0 (y8.map tree_wayT.cells).length)]])), (1, (.row 102 3 (y8.map tree_wayT.cells)))]⟩ (fun lv H' => lv = (LV.bool y11.1) ∧ H' = ⟨3, [(0, (.row 97 1 [[(LV.sl 2 0 (y11.2.map tree_wayT.cells).length)]])), (2, (.row 102 3 (y11.2.map tree_wayT.cells)))]⟩) := w_container_heap_down_x y8 0 (IntKind.i64.wrap (y6 - 1)) _ hy11
 have l13 : (y8.map tree_wayT.cells).length = (a0.map tree_wayT.cells).length := clM _
 rw [l13] at c12
 have l14 := container_heap_down_x_len hy11
 replace h := bindS h
 obtain ⟨y15, hy15, h⟩ := h
 have c16 : CallW Try.prog 136 [(LV.ptr 0 0 0)] ⟨2, [(0, (.row 97 1 [[(LV.sl 1 0 (y11.2.map tree_wayT.cells).length)]])), (1, (.row 102 3 (y11.2.map tree_wayT.cells)))]⟩ (fun lv H' => lv = (LV.iface 102 (LV.agg [(I y15.1.best.c0), (I y15.1.best.c1), (I y15.1.at_)])) ∧ H' = ⟨3, [(0, (.row 97 1 [[(LV.sl 2 0 (y15.2.map tree_wayT.cells).length)]])), (2, (.row 102 3 (y15.2.map tree_wayT.cells)))]⟩) := w_tree_ways_Pop_x y11.2 _ hy15
 have e := Option.some.inj h
 subst e
 repeat' first | exact rA _ | exact ⟨[(0, 0), (3, 2)], 3, [(0, (.row 97 1 [[(LV.sl 2 0 (y15.2.map tree_wayT.cells).length)]])), (2, (.row 102 3 (y15.2.map tree_wayT.cells)))], rfl, ⟨⟨rfl, rfl, .inr rfl⟩, rfl, rfl, ⟨⟨rfl, rfl, .inl ⟨rfl, nlT⟩⟩, rfl, rfl, trivial⟩⟩, rfl, rfl, rfl, rfl⟩ | (refine ⟨_, _, d_95_134.at TT_ok rfl, CallW.frame (nx2 := 2) (l2 := [(1, (.row 102 3 (a0.map tree_wayT.cells)))]) [(1, 0)] [(0, 1)] c7 rfl rfl ⟨⟨rfl, rfl, .inl ⟨rfl, nlT⟩⟩, rfl, rfl, trivial⟩ rfl rfl ⟨⟨rfl, rfl, .inl ⟨rfl, nlT⟩⟩, rfl, rfl, trivial⟩ ?_⟩; conv => whnf) | (refine ⟨_, _, d_95_138.at TT_ok rfl, CallW.frame (nx2 := 2) (l2 := [(1, (.row 102 3 (y8.map tree_wayT.cells)))]) [(1, 0)] [(0, 1)] c9 rfl rfl ⟨⟨rfl, rfl, .inl ⟨rfl, nlT⟩⟩, rfl, rfl, trivial⟩ rfl rfl ⟨⟨rfl, rfl, .inl ⟨rfl, nlT⟩⟩, rfl, rfl, trivial⟩ ?_⟩; conv => whnf) | (refine CallW.frame (nx2 := 3) (l2 := [(0, (.row 97 1 [[(LV.sl 2 0 (y11.2.map tree_wayT.cells).length)]])), (2, (.row 102 3 (y11.2.map tree_wayT.cells)))]) [(0, 0), (1, 1)] [(0, 0), (2, 2)] c12 rfl rfl ⟨⟨rfl, rfl, .inr rfl⟩, rfl, rfl, ⟨⟨rfl, rfl, .inl ⟨rfl, nlT⟩⟩, rfl, rfl, trivial⟩⟩ rfl rfl ⟨⟨rfl, rfl, .inr rfl⟩, rfl, rfl, ⟨⟨rfl, rfl, .inl ⟨rfl, nlT⟩⟩, rfl, rfl, trivial⟩⟩ ?_; conv => whnf) | (refine ⟨_, _, m_95_136.at, CallW.frame (nx2 := 4) (l2 := [(0, (.row 97 1 [[(LV.sl 3 0 (y15.2.map tree_wayT.cells).length)]])), (3, (.row 102 3 (y15.2.map tree_wayT.cells)))]) [(0, 0), (2, 1)] [(0, 0), (2, 3)] c16 rfl rfl ⟨⟨rfl, rfl, .inr rfl⟩, rfl, rfl, ⟨⟨rfl, rfl, .inl ⟨rfl, nlT⟩⟩, rfl, rfl, trivial⟩⟩ rfl rfl ⟨⟨rfl, rfl, .inr rfl⟩, rfl, rfl, ⟨⟨rfl, rfl, .inl ⟨rfl, nlT⟩⟩, rfl, rfl, trivial⟩⟩ ?_⟩; conv => whnf) | exact clA _ | (refine And.intro ?_ ?_ <;> conv => whnf) | exact clH _ | (refine gand ?_ h; assumption) | exact clN _ | exact clL _ | fail

def tree_bests_c0  (k8 : Nat) (x8 : PlanT) (s8 : (List tree_wayT)) : Option (Step (List tree_bestT) (List tree_wayT)) :=
 (container_heap_Push_x s8 (⟨(⟨x8.ID, 0⟩ : tree_bestT), ((k8 : Nat) : Int)⟩ : tree_wayT)).bind fun y1 =>
 some (.nxt y1)

def tree_bests_c3 (a0 : LanT) (s9 : ((List tree_wayT) × (List tree_bestT) × (List (Int × Bool)))) (y6 : (tree_wayT × (List tree_wayT))) (x10 : LinkT) (k11 : Nat) (x11 : A2_Int) (s11 : (List tree_wayT)) : Option (Step (Step (Step (List tree_bestT) ((List tree_wayT) × (List tree_bestT) × (List (Int × Bool)))) (List tree_wayT)) (List tree_wayT)) :=
 (bif (bif x10.Up then (!(mget (mput s9.2.2 y6.1.at_ true) x11.c0 false)) else false) then
  (gix a0.Plans x11.c0).bind fun v15 =>
  (gix v15.Ports x11.c1).bind fun v17 =>
  (container_heap_Push_x s11 (⟨(⟨y6.1.best.c0, (IntKind.i64.wrap (y6.1.best.c1 + v17.Cost))⟩ : tree_bestT), x11.c0⟩ : tree_wayT)).bind fun y19 =>
  some (.nxt y19)
 else
  some (.nxt s11))

def tree_bests_c2 (a0 : LanT) (s9 : ((List tree_wayT) × (List tree_bestT) × (List (Int × Bool)))) (y6 : (tree_wayT × (List tree_wayT))) (k10 : Nat) (x10 : LinkT) (s10 : (List tree_wayT)) : Option (Step (Step (List tree_bestT) ((List tree_wayT) × (List tree_bestT) × (List (Int × Bool)))) (List tree_wayT)) :=
 (lan_On a0 x10.Seg).bind fun y13 =>
 aft (rangeL (tree_bests_c3 a0 s9 y6 x10) y13.2.1 s10) fun s11 =>
 some (.nxt s11)

def tree_bests_c1 (a0 : LanT) (s9 : ((List tree_wayT) × (List tree_bestT) × (List (Int × Bool)))) : Option (Step (List tree_bestT) ((List tree_wayT) × (List tree_bestT) × (List (Int × Bool)))) :=
 (_tree_ways_Len_x s9.1).bind fun y4 =>
 (bif (decide (0 < y4)) then
  (container_heap_Pop_x s9.1).bind fun y6 =>
  (bif (mget s9.2.2 y6.1.at_ false) then
   some (.nxt (y6.2, s9.2.1, s9.2.2))
  else
   grd ((0 : Int) ≤ y6.1.at_ ∧ y6.1.at_ < ((s9.2.1.length : Nat) : Int)) <|
   (gixN s9.2.1 (y6.1.at_ : Int).toNat).bind fun v9 =>
   (gix a0.Plans y6.1.at_).bind fun v11 =>
   aft (rangeL (tree_bests_c2 a0 s9 y6) v11.Ports y6.2) fun s10 =>
   some (.nxt (s10, (s9.2.1.set (y6.1.at_ : Int).toNat y6.1.best), (mput s9.2.2 y6.1.at_ true))))
 else
  some (.brk (s9.1, s9.2.1, s9.2.2)))

def tree_bests (a0 : LanT) : Option (List tree_bestT) :=
 aft (rangeL (tree_bests_c0 ) a0.Plans ([] : (List tree_wayT))) fun s8 =>
 grd ((0 : Int) ≤ ((a0.Plans.length : Nat) : Int) ∧ ((a0.Plans.length : Nat) : Int) ≤ ((a0.Plans.length : Nat) : Int) ∧ fits (((a0.Plans.length : Nat) : Int)).toNat 16) <|
 aft (loopF 1000000 (tree_bests_c1 a0) (s8, (List.replicate (((a0.Plans.length : Nat) : Int)).toNat (⟨0, 0⟩ : tree_bestT)), ([] : List (Int × Bool)))) fun s9 =>
 some s9.2.1

theorem cf_tree_bests (a0 : LanT) (r : (List tree_bestT)) (h : tree_bests a0 = some r) : CallF Try.prog 32 [(LV.agg [(I a0.Segs), (LV.ro 2 (a0.Plans.map PlanT.cells)), (LV.ro 2 (a0.Hosts.map HostT.cells))])] 72 2 (r.map tree_bestT.cells) := by
 unfold tree_bests at h
 refine CallF.of (NLss_map' _) (CallW.intro TT_ok Try.func32 rfl rfl [0, 1, 2, 3, 4, 5, 6, 7, 8, 10, 12, 15, 16, 21, 22, 23, 24, 44, 51, 67, 68, 69, 70, 81, 82, 83, 84, 95, 999999, 1000056, 1000057] rfl ?_)
 conv => whnf
 repeat' first | exact rA _ | refine parkI ?_ | (refine W.drawn TT_ok hmix1 rfl ?_; conv => whnf) | (refine W.drawnM (id := 12) 0 TT_ok hmix1 [0, 0, 0, 0, 0, 0, 0, 0, 0, 1, 1] [0, 0, 0, 1, 1, 1, 1, 1, 1, 1, 2] rfl ?_; conv => whnf) | exact clA _ | (refine And.intro ?_ ?_ <;> conv => whnf) | exact clG _ | (refine gand ?_ h; assumption) | exact clN _ | fail
 replace h := aftS h
 obtain ⟨O8, hO8, r8⟩ := h
 refine LoopW.norm [(1, (LV.ptr 0 0 0)), (3, (LV.iface 95 (LV.ptr 2 0 0))), (21, (LV.ro 2 (a0.Plans.map PlanT.cells))), (22, (I (((a0.Plans.map PlanT.cells).length : Nat) : Int))), (23, (I ((0 : Nat) : Int)))] 3 [(0, (.row 25 3 [[(I a0.Segs), (LV.ro 2 (a0.Plans.map PlanT.cells)), (LV.ro 2 (a0.Hosts.map HostT.cells))]])), (2, (.row 97 1 [[(LV.sl 1 0 (([] : (List tree_wayT)).map tree_wayT.cells).length)]])), (1, (.row 102 3 (([] : (List tree_wayT)).map tree_wayT.cells)))] ⟨rfl, rfl, rfl, rfl, rfl, trivial⟩ ⟨⟨rfl, rfl, blT⟩, ⟨⟨(congrArg (fun q => some (Blk.row 97 1 q)) (smT : ([[(LV.sl 1 0 0)]] : List (List LV)) = [[(LV.sl 1 0 (([] : (List tree_wayT)).map tree_wayT.cells).length)]])), rfl, blT⟩, ⟨⟨(congrArg (fun q => some (Blk.row 102 3 q)) (smT : (([] : List (List LV)) : List (List LV)) = (([] : (List tree_wayT)).map tree_wayT.cells))), rfl, NLss_bel (NLss_map' _)⟩, trivial⟩⟩⟩ blT rfl ?_
 refine LoopW.forR (fun k8 s8 => [(1, (LV.ptr 0 0 0)), (3, (LV.iface 95 (LV.ptr 2 0 0))), (21, (LV.ro 2 (a0.Plans.map PlanT.cells))), (22, (I (((a0.Plans.map PlanT.cells).length : Nat) : Int))), (23, (I ((k8 : Nat) : Int)))]) (fun s8 => ⟨3, [(0, (.row 25 3 [[(I a0.Segs), (LV.ro 2 (a0.Plans.map PlanT.cells)), (LV.ro 2 (a0.Hosts.map HostT.cells))]])), (2, (.row 97 1 [[(LV.sl 1 0 (s8.map tree_wayT.cells).length)]])), (1, (.row 102 3 (s8.map tree_wayT.cells)))]⟩) hO8 (fun hl8 s8 hs8 => ?_) (fun hl8 k8 x8 s8 o8 hk8 hx8 b8 K8 hret8 hbrk8 => ?_)
 ·rw [hs8] at r8
  dsimp only [aftM] at r8
  have hd : decide (((a0.Plans.length : Nat) : Int) < (((a0.Plans.map PlanT.cells).length : Nat) : Int)) = false := by rw [decide_eq_false_iff_not]; (try simp only [se_len, se_ch, List.length_map]); omega
  refine LoopW.round TT_ok [0, 1, 2, 3, 4, 5, 6, 7, 8, 10, 12, 15, 16, 21, 22, 23, 24, 44, 51, 67, 68, 69, 70, 81, 82, 83, 84, 95, 999999, 1000056, 1000057] ?_
  conv => whnf
  repeat' first | exact rA _ | refine parkI ?_ | (refine W.drawn TT_ok hmix1 rfl ?_; conv => whnf) | (refine W.drawnM (id := 12) 0 TT_ok hmix1 [0, 0, 0, 0, 0, 0, 0, 0, 0, 1, 1] [0, 0, 0, 1, 1, 1, 1, 1, 1, 1, 2] rfl ?_; conv => whnf) | exact clA _ | (refine And.intro ?_ ?_ <;> conv => whnf) | exact clG _ | (refine gand ?_ h; assumption) | exact clN _ | fail
  refine parkE (fun hc => ?_) (fun hc => ?_)
  ·exact (Bool.false_ne_true (hd.symm.trans hc)).elim
  ·clear hd
   conv => whnf
   replace r8 := grdS r8
   obtain ⟨g3, r8⟩ := r8
   replace g3 : (0 : Int) ≤ (((a0.Plans.map PlanT.cells).length : Nat) : Int) ∧ (((a0.Plans.map PlanT.cells).length : Nat) : Int) ≤ (((a0.Plans.map PlanT.cells).length : Nat) : Int) ∧ fits ((((a0.Plans.map PlanT.cells).length : Nat) : Int)).toNat 16 := by simpa only [se_len, se_ch, List.length_map] using g3
   repeat' first | exact rA _ | refine parkI ?_ | exact g3 | (refine W.drawn TT_ok hmix1 rfl ?_; conv => whnf) | (refine W.drawnM (id := 12) 0 TT_ok hmix1 [0, 0, 0, 0, 0, 0, 0, 0, 0, 1, 1] [0, 0, 0, 1, 1, 1, 1, 1, 1, 1, 2] rfl ?_; conv => whnf) | exact clA _ | (refine And.intro ?_ ?_ <;> conv => whnf) | exact clG _ | (refine gand ?_ h; assumption) | exact clN _ | fail
   replace r8 := aftS r8
   obtain ⟨O9, hO9, r9⟩ := r8
   refine LoopW.norm [(1, (LV.ptr 0 0 0)), (3, (LV.iface 95 (LV.ptr 2 0 0))), (6, (LV.sl 3 0 ((s8, (List.replicate (((a0.Plans.length : Nat) : Int)).toNat (⟨0, 0⟩ : tree_bestT)), ([] : List (Int × Bool))).2.1.map tree_bestT.cells).length)), (7, (LV.map 4))] 5 [(0, (.row 25 3 [[(I a0.Segs), (LV.ro 2 (a0.Plans.map PlanT.cells)), (LV.ro 2 (a0.Hosts.map HostT.cells))]])), (2, (.row 97 1 [[(LV.sl 1 0 ((s8, (List.replicate (((a0.Plans.length : Nat) : Int)).toNat (⟨0, 0⟩ : tree_bestT)), ([] : List (Int × Bool))).1.map tree_wayT.cells).length)]])), (1, (.row 102 3 ((s8, (List.replicate (((a0.Plans.length : Nat) : Int)).toNat (⟨0, 0⟩ : tree_bestT)), ([] : List (Int × Bool))).1.map tree_wayT.cells))), (3, (.row 72 2 ((s8, (List.replicate (((a0.Plans.length : Nat) : Int)).toNat (⟨0, 0⟩ : tree_bestT)), ([] : List (Int × Bool))).2.1.map tree_bestT.cells))), (4, (.mp ((s8, (List.replicate (((a0.Plans.length : Nat) : Int)).toNat (⟨0, 0⟩ : tree_bestT)), ([] : List (Int × Bool))).2.2.map (mpC I (fun z : Bool => (LV.bool z))))))] ⟨rfl, rfl, (by exact congrArg (LV.sl 3 0) (clL _ : ((((a0.Plans.map PlanT.cells).length : Nat) : Int)).toNat = ((s8, (List.replicate (((a0.Plans.length : Nat) : Int)).toNat (⟨0, 0⟩ : tree_bestT)), ([] : List (Int × Bool))).2.1.map tree_bestT.cells).length)), rfl, trivial⟩ ⟨⟨rfl, rfl, blT⟩, ⟨⟨(congrArg (fun q => some (Blk.row 97 1 q)) (by first | (simp only [se_map, se_byL, se_len, se_ch, List.length_map]; done) | (simp only [se_map, se_byL, se_len, se_ch, List.length_map, tree_bestT.cells]; done) : ([[(LV.sl 1 0 (s8.map tree_wayT.cells).length)]] : List (List LV)) = [[(LV.sl 1 0 ((s8, (List.replicate (((a0.Plans.length : Nat) : Int)).toNat (⟨0, 0⟩ : tree_bestT)), ([] : List (Int × Bool))).1.map tree_wayT.cells).length)]])), rfl, blT⟩, ⟨⟨(congrArg (fun q => some (Blk.row 102 3 q)) (by first | (simp only [se_map, se_byL, se_len, se_ch, List.length_map]; done) | (simp only [se_map, se_byL, se_len, se_ch, List.length_map, tree_bestT.cells]; done) : ((s8.map tree_wayT.cells) : List (List LV)) = ((s8, (List.replicate (((a0.Plans.length : Nat) : Int)).toNat (⟨0, 0⟩ : tree_bestT)), ([] : List (Int × Bool))).1.map tree_wayT.cells))), rfl, NLss_bel (NLss_map' _)⟩, ⟨⟨(by first | exact (congrArg (fun q => some (Blk.row 72 2 q)) (by first | (simp only [se_map, se_byL, se_len, se_ch, List.length_map]; done) | (simp only [se_map, se_byL, se_len, se_ch, List.length_map, tree_bestT.cells]; done) : ((List.replicate ((((a0.Plans.map PlanT.cells).length : Nat) : Int)).toNat [(I 0), (I 0)]) : List (List LV)) = ((s8, (List.replicate (((a0.Plans.length : Nat) : Int)).toNat (⟨0, 0⟩ : tree_bestT)), ([] : List (Int × Bool))).2.1.map tree_bestT.cells))) | exact Eq.trans (b := some (Blk.row 72 2 (List.replicate ((((a0.Plans.map PlanT.cells).length : Nat) : Int)).toNat [(I 0), (I 0)]))) rfl (congrArg (fun q => some (Blk.row 72 2 q)) (by first | (simp only [se_map, se_byL, se_len, se_ch, List.length_map]; done) | (simp only [se_map, se_byL, se_len, se_ch, List.length_map, tree_bestT.cells]; done) : ((List.replicate ((((a0.Plans.map PlanT.cells).length : Nat) : Int)).toNat [(I 0), (I 0)]) : List (List LV)) = ((s8, (List.replicate (((a0.Plans.length : Nat) : Int)).toNat (⟨0, 0⟩ : tree_bestT)), ([] : List (Int × Bool))).2.1.map tree_bestT.cells)))), rfl, NLss_bel (NLss_map' _)⟩, ⟨⟨(congrArg (fun q => some (Blk.mp q)) (by simp only [se_mp] : (([] : List (LV × LV)) : List (LV × LV)) = ((s8, (List.replicate (((a0.Plans.length : Nat) : Int)).toNat (⟨0, 0⟩ : tree_bestT)), ([] : List (Int × Bool))).2.2.map (mpC I (fun z : Bool => (LV.bool z)))))), rfl, bel_mp (f := I) (g := (fun z : Bool => (LV.bool z))) (fun _ => by repeat' first | exact True.intro | refine ⟨?_, ?_⟩) (fun _ => by repeat' first | exact True.intro | refine ⟨?_, ?_⟩) _ _⟩, trivial⟩⟩⟩⟩⟩ blT rfl ?_
   refine LoopW.forF (fun s9 => [(1, (LV.ptr 0 0 0)), (3, (LV.iface 95 (LV.ptr 2 0 0))), (6, (LV.sl 3 0 (s9.2.1.map tree_bestT.cells).length)), (7, (LV.map 4))]) (fun s9 => ⟨5, [(0, (.row 25 3 [[(I a0.Segs), (LV.ro 2 (a0.Plans.map PlanT.cells)), (LV.ro 2 (a0.Hosts.map HostT.cells))]])), (2, (.row 97 1 [[(LV.sl 1 0 (s9.1.map tree_wayT.cells).length)]])), (1, (.row 102 3 (s9.1.map tree_wayT.cells))), (3, (.row 72 2 (s9.2.1.map tree_bestT.cells))), (4, (.mp (s9.2.2.map (mpC I (fun z : Bool => (LV.bool z))))))]⟩) hO9 (fun s9 o9 b9 K9 hret9 hbrk9 => ?_)
   unfold tree_bests_c1 at b9
   refine LoopW.round TT_ok [0, 1, 2, 3, 4, 5, 6, 7, 8, 10, 12, 15, 16, 21, 22, 23, 24, 44, 51, 67, 68, 69, 70, 81, 82, 83, 84, 95, 999999, 1000056, 1000057] ?_
   conv => whnf
   replace b9 := bindS b9
   obtain ⟨y4, hy4, b9⟩ := b9
   have c5 : CallW Try.prog 134 [(LV.sl 0 0 (s9.1.map tree_wayT.cells).length)] ⟨1, [(0, (.row 102 3 (s9.1.map tree_wayT.cells)))]⟩ (fun lv H' => lv = (I y4) ∧ H' = ⟨1, [(0, (.row 102 3 (s9.1.map tree_wayT.cells)))]⟩) := w__tree_ways_Len_x s9.1 _ hy4
   repeat' first | exact rA _ | refine parkI ?_ | (refine ⟨_, _, d_95_134.at TT_ok rfl, CallW.frame (nx2 := 5) (l2 := [(1, (.row 102 3 (s9.1.map tree_wayT.cells)))]) [(1, 0)] [(0, 1)] c5 rfl rfl ⟨⟨rfl, rfl, .inl ⟨rfl, nlT⟩⟩, rfl, rfl, trivial⟩ rfl rfl ⟨⟨rfl, rfl, .inl ⟨rfl, nlT⟩⟩, rfl, rfl, trivial⟩ ?_⟩; conv => whnf) | (refine W.drawn TT_ok hmix1 rfl ?_; conv => whnf) | (refine W.drawnM (id := 12) 0 TT_ok hmix1 [0, 0, 0, 0, 0, 0, 0, 0, 0, 1, 1] [0, 0, 0, 1, 1, 1, 1, 1, 1, 1, 2] rfl ?_; conv => whnf) | exact clA _ | (refine And.intro ?_ ?_ <;> conv => whnf) | exact clG _ | (refine gand ?_ h; assumption) | exact clN _ | fail
   refine parkE (fun hc => ?_) (fun hc => ?_)
   ·replace b9 := condT hc b9
    conv => whnf
    replace b9 := bindS b9
    obtain ⟨y6, hy6, b9⟩ := b9
    have c7 : CallW Try.prog 57 [(LV.iface 95 (LV.ptr 0 0 0))] ⟨2, [(0, (.row 97 1 [[(LV.sl 1 0 (s9.1.map tree_wayT.cells).length)]])), (1, (.row 102 3 (s9.1.map tree_wayT.cells)))]⟩ (fun lv H' => lv = (LV.iface 102 (LV.agg [(I y6.1.best.c0), (I y6.1.best.c1), (I y6.1.at_)])) ∧ H' = ⟨3, [(0, (.row 97 1 [[(LV.sl 2 0 (y6.2.map tree_wayT.cells).length)]])), (2, (.row 102 3 (y6.2.map tree_wayT.cells)))]⟩) := w_container_heap_Pop_x s9.1 _ hy6
    repeat' first | exact rA _ | refine parkI ?_ | (refine CallW.frame (nx2 := 6) (l2 := [(2, (.row 97 1 [[(LV.sl 5 0 (y6.2.map tree_wayT.cells).length)]])), (5, (.row 102 3 (y6.2.map tree_wayT.cells)))]) [(2, 0), (1, 1)] [(0, 2), (2, 5)] c7 rfl rfl ⟨⟨rfl, rfl, .inr rfl⟩, rfl, rfl, ⟨⟨rfl, rfl, .inl ⟨rfl, nlT⟩⟩, rfl, rfl, trivial⟩⟩ rfl rfl ⟨⟨rfl, rfl, .inr rfl⟩, rfl, rfl, ⟨⟨rfl, rfl, .inl ⟨rfl, nlT⟩⟩, rfl, rfl, trivial⟩⟩ ?_; conv => whnf) | (refine ⟨symR (fun z : Bool => (LV.bool z)) s9.2.2 y6.1.at_, findsS (f := I) (g := (fun z : Bool => (LV.bool z))) ke_3 s9.2.2 y6.1.at_, ?_⟩; rw [resM_sym (d := false)]; rotate_left; exact rfl; conv => whnf) | (refine W.drawn TT_ok hmix1 rfl ?_; conv => whnf) | (refine W.drawnM (id := 12) 0 TT_ok hmix1 [0, 0, 0, 0, 0, 0, 0, 0, 0, 1, 1] [0, 0, 0, 1, 1, 1, 1, 1, 1, 1, 2] rfl ?_; conv => whnf) | exact clA _ | (refine And.intro ?_ ?_ <;> conv => whnf) | exact clG _ | (refine gand ?_ h; assumption) | exact clN _ | fail
    refine parkE (fun hc => ?_) (fun hc => ?_)
    ·replace b9 := condT hc b9
     conv => whnf
     repeat' first | exact rA _ | refine parkI ?_ | (refine W.drawn TT_ok hmix1 rfl ?_; conv => whnf) | (refine W.drawnM (id := 12) 0 TT_ok hmix1 [0, 0, 0, 0, 0, 0, 0, 0, 0, 1, 1] [0, 0, 0, 1, 1, 1, 1, 1, 1, 1, 2] rfl ?_; conv => whnf) | exact clA _ | (refine And.intro ?_ ?_ <;> conv => whnf) | exact clG _ | (refine gand ?_ h; assumption) | exact clN _ | fail
     have e := Option.some.inj b9
     refine LoopW.ren [(0, 0), (2, 2), (5, 1), (3, 3), (4, 4)] [(1, (LV.ptr 0 0 0)), (3, (LV.iface 95 (LV.ptr 2 0 0))), (6, (LV.sl 3 0 ((y6.2, s9.2.1, s9.2.2).2.1.map tree_bestT.cells).length)), (7, (LV.map 4))] 5 [(0, (.row 25 3 [[(I a0.Segs), (LV.ro 2 (a0.Plans.map PlanT.cells)), (LV.ro 2 (a0.Hosts.map HostT.cells))]])), (2, (.row 97 1 [[(LV.sl 1 0 ((y6.2, s9.2.1, s9.2.2).1.map tree_wayT.cells).length)]])), (1, (.row 102 3 ((y6.2, s9.2.1, s9.2.2).1.map tree_wayT.cells))), (3, (.row 72 2 ((y6.2, s9.2.1, s9.2.2).2.1.map tree_bestT.cells))), (4, (.mp ((y6.2, s9.2.1, s9.2.2).2.2.map (mpC I (fun z : Bool => (LV.bool z))))))] rfl ⟨rfl, rfl, (by exact congrArg (LV.sl 3 0) (clL _ : (s9.2.1.map tree_bestT.cells).length = ((y6.2, s9.2.1, s9.2.2).2.1.map tree_bestT.cells).length)), rfl, trivial⟩ ⟨⟨rfl, rfl, .inl ⟨rfl, nlT⟩⟩, rfl, rfl, ⟨⟨rfl, rfl, .inr (by first | exact rfl | (show ([[(LV.sl 1 0 (y6.2.map tree_wayT.cells).length)]] : List (List LV)) = [[(LV.sl 1 0 ((y6.2, s9.2.1, s9.2.2).1.map tree_wayT.cells).length)]]; exact smT))⟩, rfl, rfl, ⟨⟨rfl, rfl, .inl ⟨(smT : ((y6.2.map tree_wayT.cells) : List (List LV)) = ((y6.2, s9.2.1, s9.2.2).1.map tree_wayT.cells)), nlT⟩⟩, rfl, rfl, ⟨⟨rfl, rfl, .inl ⟨(smT : ((s9.2.1.map tree_bestT.cells) : List (List LV)) = ((y6.2, s9.2.1, s9.2.2).2.1.map tree_bestT.cells)), nlT⟩⟩, rfl, rfl, ⟨.inl ⟨(by simp only [se_mp] : ((s9.2.2.map (mpC I (fun z : Bool => (LV.bool z)))) : List (LV × LV)) = ((y6.2, s9.2.1, s9.2.2).2.2.map (mpC I (fun z : Bool => (LV.bool z))))), (NL_mp (fun _ => by repeat' first | exact True.intro | refine ⟨?_, ?_⟩) (fun _ => by repeat' first | exact True.intro | refine ⟨?_, ?_⟩) _)⟩, rfl, rfl, trivial⟩⟩⟩⟩⟩ rfl (K9 _ e.symm)
    ·replace b9 := condF hc b9
     conv => whnf
     replace b9 := grdS b9
     obtain ⟨g8, b9⟩ := b9
     replace g8 : (0 : Int) ≤ y6.1.at_ ∧ y6.1.at_ < (((s9.2.1.map tree_bestT.cells).length : Nat) : Int) := by simpa only [se_len, se_ch, List.length_map] using g8
     replace b9 := bindS b9
     obtain ⟨v9, hv9, b9⟩ := b9
     have i10 : nth (s9.2.1.map tree_bestT.cells) (0 + ((y6.1.at_ : Int).toNat)) = some [(I v9.c0), (I v9.c1)] := by simpa only [se_map, se_len, se_ch, List.length_map, nth_eq, Nat.zero_add, List.getElem?_map] using gixNF (f := tree_bestT.cells) hv9
     replace b9 := bindS b9
     obtain ⟨v11, hv11, b9⟩ := b9
     have i12 := gixF (f := PlanT.cells) hv11
     repeat' first | exact rA _ | refine parkI ?_ | (refine ⟨_, i12, ?_⟩; conv => whnf) | exact g8 | (refine ⟨symR (fun z : Bool => (LV.bool z)) s9.2.2 y6.1.at_, findsS (f := I) (g := (fun z : Bool => (LV.bool z))) ke_3 s9.2.2 y6.1.at_, ?_⟩; dsimp only; erw [putE_sym I (fun z : Bool => (LV.bool z)) s9.2.2 y6.1.at_ true]; conv => whnf) | (rw [i10]; conv => whnf) | (refine W.drawn TT_ok hmix1 rfl ?_; conv => whnf) | (refine W.drawnM (id := 12) 0 TT_ok hmix1 [0, 0, 0, 0, 0, 0, 0, 0, 0, 1, 1] [0, 0, 0, 1, 1, 1, 1, 1, 1, 1, 2] rfl ?_; conv => whnf) | exact clA _ | (refine And.intro ?_ ?_ <;> conv => whnf) | exact clG _ | (refine gand ?_ h; assumption) | exact clN _ | fail
     replace b9 := aftS b9
     obtain ⟨O10, hO10, r10⟩ := b9
     refine LoopW.norm [(1, (LV.ptr 0 0 0)), (3, (LV.iface 95 (LV.ptr 2 0 0))), (6, (LV.sl 3 0 (s9.2.1.map tree_bestT.cells).length)), (7, (LV.map 4)), (8, (LV.ptr 6 0 0)), (67, (LV.ro 3 (v11.Ports.map LinkT.cells))), (68, (I (((v11.Ports.map LinkT.cells).length : Nat) : Int))), (69, (I ((0 : Nat) : Int)))] 7 [(0, (.row 25 3 [[(I a0.Segs), (LV.ro 2 (a0.Plans.map PlanT.cells)), (LV.ro 2 (a0.Hosts.map HostT.cells))]])), (2, (.row 97 1 [[(LV.sl 5 0 (y6.2.map tree_wayT.cells).length)]])), (5, (.row 102 3 (y6.2.map tree_wayT.cells))), (3, (.row 72 2 (setN (s9.2.1.map tree_bestT.cells) (0 + ((y6.1.at_ : Int).toNat)) [(I y6.1.best.c0), (I y6.1.best.c1)]))), (4, (.mp ((mput s9.2.2 y6.1.at_ true).map (mpC I (fun z : Bool => (LV.bool z)))))), (6, (.row 102 3 [[(I y6.1.best.c0), (I y6.1.best.c1), (I y6.1.at_)]]))] ⟨rfl, rfl, rfl, rfl, rfl, rfl, rfl, rfl, trivial⟩ ⟨⟨rfl, rfl, blT⟩, ⟨⟨rfl, rfl, blT⟩, ⟨⟨rfl, rfl, NLss_bel (NLss_map' _)⟩, ⟨⟨rfl, rfl, NLss_bel nlT⟩, ⟨⟨rfl, rfl, bel_mp (f := I) (g := (fun z : Bool => (LV.bool z))) (fun _ => by repeat' first | exact True.intro | refine ⟨?_, ?_⟩) (fun _ => by repeat' first | exact True.intro | refine ⟨?_, ?_⟩) _ _⟩, ⟨⟨rfl, rfl, blT⟩, trivial⟩⟩⟩⟩⟩⟩ blT rfl ?_
     refine LoopW.forR (fun k10 s10 => [(1, (LV.ptr 0 0 0)), (3, (LV.iface 95 (LV.ptr 2 0 0))), (6, (LV.sl 3 0 (s9.2.1.map tree_bestT.cells).length)), (7, (LV.map 4)), (8, (LV.ptr 6 0 0)), (67, (LV.ro 3 (v11.Ports.map LinkT.cells))), (68, (I (((v11.Ports.map LinkT.cells).length : Nat) : Int))), (69, (I ((k10 : Nat) : Int)))]) (fun s10 => ⟨7, [(0, (.row 25 3 [[(I a0.Segs), (LV.ro 2 (a0.Plans.map PlanT.cells)), (LV.ro 2 (a0.Hosts.map HostT.cells))]])), (2, (.row 97 1 [[(LV.sl 5 0 (s10.map tree_wayT.cells).length)]])), (5, (.row 102 3 (s10.map tree_wayT.cells))), (3, (.row 72 2 (setN (s9.2.1.map tree_bestT.cells) (0 + ((y6.1.at_ : Int).toNat)) [(I y6.1.best.c0), (I y6.1.best.c1)]))), (4, (.mp ((mput s9.2.2 y6.1.at_ true).map (mpC I (fun z : Bool => (LV.bool z)))))), (6, (.row 102 3 [[(I y6.1.best.c0), (I y6.1.best.c1), (I y6.1.at_)]]))]⟩) hO10 (fun hl10 s10 hs10 => ?_) (fun hl10 k10 x10 s10 o10 hk10 hx10 b10 K10 hret10 hbrk10 => ?_)
     ·rw [hs10] at r10
      dsimp only [aftM] at r10
      have hd : decide (((v11.Ports.length : Nat) : Int) < (((v11.Ports.map LinkT.cells).length : Nat) : Int)) = false := by rw [decide_eq_false_iff_not]; (try simp only [se_len, se_ch, List.length_map]); omega
      refine LoopW.round TT_ok [0, 1, 2, 3, 4, 5, 6, 7, 8, 10, 12, 15, 16, 21, 22, 23, 24, 44, 51, 67, 68, 69, 70, 81, 82, 83, 84, 95, 999999, 1000056, 1000057] ?_
      conv => whnf
      repeat' first | exact rA _ | refine parkI ?_ | (refine W.drawn TT_ok hmix1 rfl ?_; conv => whnf) | (refine W.drawnM (id := 12) 0 TT_ok hmix1 [0, 0, 0, 0, 0, 0, 0, 0, 0, 1, 1] [0, 0, 0, 1, 1, 1, 1, 1, 1, 1, 2] rfl ?_; conv => whnf) | exact clA _ | (refine And.intro ?_ ?_ <;> conv => whnf) | exact clG _ | (refine gand ?_ h; assumption) | exact clN _ | fail
      refine parkE (fun hc => ?_) (fun hc => ?_)
      ·exact (Bool.false_ne_true (hd.symm.trans hc)).elim
      ·clear hd
       conv => whnf
       repeat' first | exact rA _ | refine parkI ?_ | (refine W.drawn TT_ok hmix1 rfl ?_; conv => whnf) | (refine W.drawnM (id := 12) 0 TT_ok hmix1 [0, 0, 0, 0, 0, 0, 0, 0, 0, 1, 1] [0, 0, 0, 1, 1, 1, 1, 1, 1, 1, 2] rfl ?_; conv => whnf) | exact clA _ | (refine And.intro ?_ ?_ <;> conv => whnf) | exact clG _ | (refine gand ?_ h; assumption) | exact clN _ | fail
       have e := Option.some.inj r10
       refine LoopW.ren [(0, 0), (2, 2), (5, 1), (3, 3), (4, 4)] [(1, (LV.ptr 0 0 0)), (3, (LV.iface 95 (LV.ptr 2 0 0))), (6, (LV.sl 3 0 ((s10, (s9.2.1.set (y6.1.at_ : Int).toNat y6.1.best), (mput s9.2.2 y6.1.at_ true)).2.1.map tree_bestT.cells).length)), (7, (LV.map 4))] 5 [(0, (.row 25 3 [[(I a0.Segs), (LV.ro 2 (a0.Plans.map PlanT.cells)), (LV.ro 2 (a0.Hosts.map HostT.cells))]])), (2, (.row 97 1 [[(LV.sl 1 0 ((s10, (s9.2.1.set (y6.1.at_ : Int).toNat y6.1.best), (mput s9.2.2 y6.1.at_ true)).1.map tree_wayT.cells).length)]])), (1, (.row 102 3 ((s10, (s9.2.1.set (y6.1.at_ : Int).toNat y6.1.best), (mput s9.2.2 y6.1.at_ true)).1.map tree_wayT.cells))), (3, (.row 72 2 ((s10, (s9.2.1.set (y6.1.at_ : Int).toNat y6.1.best), (mput s9.2.2 y6.1.at_ true)).2.1.map tree_bestT.cells))), (4, (.mp ((s10, (s9.2.1.set (y6.1.at_ : Int).toNat y6.1.best), (mput s9.2.2 y6.1.at_ true)).2.2.map (mpC I (fun z : Bool => (LV.bool z))))))] rfl ⟨rfl, rfl, (by exact congrArg (LV.sl 3 0) (clL _ : (s9.2.1.map tree_bestT.cells).length = ((s10, (s9.2.1.set (y6.1.at_ : Int).toNat y6.1.best), (mput s9.2.2 y6.1.at_ true)).2.1.map tree_bestT.cells).length)), rfl, trivial⟩ ⟨⟨rfl, rfl, .inl ⟨rfl, nlT⟩⟩, rfl, rfl, ⟨⟨rfl, rfl, .inr (by first | exact rfl | (show ([[(LV.sl 1 0 (s10.map tree_wayT.cells).length)]] : List (List LV)) = [[(LV.sl 1 0 ((s10, (s9.2.1.set (y6.1.at_ : Int).toNat y6.1.best), (mput s9.2.2 y6.1.at_ true)).1.map tree_wayT.cells).length)]]; exact smT))⟩, rfl, rfl, ⟨⟨rfl, rfl, .inl ⟨(smT : ((s10.map tree_wayT.cells) : List (List LV)) = ((s10, (s9.2.1.set (y6.1.at_ : Int).toNat y6.1.best), (mput s9.2.2 y6.1.at_ true)).1.map tree_wayT.cells)), nlT⟩⟩, rfl, rfl, ⟨⟨rfl, rfl, .inl ⟨(smT : ((setN (s9.2.1.map tree_bestT.cells) (0 + ((y6.1.at_ : Int).toNat)) [(I y6.1.best.c0), (I y6.1.best.c1)]) : List (List LV)) = ((s10, (s9.2.1.set (y6.1.at_ : Int).toNat y6.1.best), (mput s9.2.2 y6.1.at_ true)).2.1.map tree_bestT.cells)), nlT⟩⟩, rfl, rfl, ⟨.inl ⟨(by simp only [se_mp] : (((mput s9.2.2 y6.1.at_ true).map (mpC I (fun z : Bool => (LV.bool z)))) : List (LV × LV)) = ((s10, (s9.2.1.set (y6.1.at_ : Int).toNat y6.1.best), (mput s9.2.2 y6.1.at_ true)).2.2.map (mpC I (fun z : Bool => (LV.bool z))))), (NL_mp (fun _ => by repeat' first | exact True.intro | refine ⟨?_, ?_⟩) (fun _ => by repeat' first | exact True.intro | refine ⟨?_, ?_⟩) _)⟩, rfl, rfl, trivial⟩⟩⟩⟩⟩ rfl (K9 _ e.symm)
     ·unfold tree_bests_c2 at b10
      have hd : decide (((k10 : Nat) : Int) < (((v11.Ports.map LinkT.cells).length : Nat) : Int)) = true := by rw [decide_eq_true_eq]; (try simp only [se_len, se_ch, List.length_map] at hk10); (try simp only [se_len, se_ch, List.length_map]); omega
      refine LoopW.round TT_ok [0, 1, 2, 3, 4, 5, 6, 7, 8, 10, 12, 15, 16, 21, 22, 23, 24, 44, 51, 67, 68, 69, 70, 81, 82, 83, 84, 95, 999999, 1000056, 1000057] ?_
      conv => whnf
      repeat' first | exact rA _ | refine parkI ?_ | (refine W.drawn TT_ok hmix1 rfl ?_; conv => whnf) | (refine W.drawnM (id := 12) 0 TT_ok hmix1 [0, 0, 0, 0, 0, 0, 0, 0, 0, 1, 1] [0, 0, 0, 1, 1, 1, 1, 1, 1, 1, 2] rfl ?_; conv => whnf) | exact clA _ | (refine And.intro ?_ ?_ <;> conv => whnf) | exact clG _ | (refine gand ?_ h; assumption) | exact clN _ | fail
      refine parkE (fun hc => ?_) (fun hc => ?_)
      ·clear hd
       conv => whnf
       replace b10 := bindS b10
       obtain ⟨y13, hy13, b10⟩ := b10
       have c14 := c_lan_On a0 x10.Seg _ hy13
       repeat' first | exact rA _ | refine parkI ?_ | (refine ⟨_, (kixF (f := LinkT.cells) hx10), ?_⟩; conv => whnf) | (refine CallP.use c14 ?_; conv => whnf) | (refine ⟨_, _, CallP.at c14, ?_⟩; conv => whnf) | (refine ⟨_, fun _ => c14, ?_⟩; conv => whnf) | (refine W.drawn TT_ok hmix1 rfl ?_; conv => whnf) | (refine W.drawnM (id := 12) 0 TT_ok hmix1 [0, 0, 0, 0, 0, 0, 0, 0, 0, 1, 1] [0, 0, 0, 1, 1, 1, 1, 1, 1, 1, 2] rfl ?_; conv => whnf) | exact clA _ | (refine And.intro ?_ ?_ <;> conv => whnf) | exact clG _ | (refine gand ?_ h; assumption) | exact clN _ | fail
       replace b10 := aftS b10
       obtain ⟨O11, hO11, r11⟩ := b10
       refine LoopW.norm [(1, (LV.ptr 0 0 0)), (3, (LV.iface 95 (LV.ptr 2 0 0))), (6, (LV.sl 3 0 (s9.2.1.map tree_bestT.cells).length)), (7, (LV.map 4)), (8, (LV.ptr 6 0 0)), (10, (LV.ptr 7 0 0)), (67, (LV.ro 3 (v11.Ports.map LinkT.cells))), (68, (I (((v11.Ports.map LinkT.cells).length : Nat) : Int))), (69, (I ((k10 : Nat) : Int))), (81, (LV.ro 2 (y13.2.1.map A2_Int.cells))), (82, (I (((y13.2.1.map A2_Int.cells).length : Nat) : Int))), (83, (I ((0 : Nat) : Int)))] 8 [(0, (.row 25 3 [[(I a0.Segs), (LV.ro 2 (a0.Plans.map PlanT.cells)), (LV.ro 2 (a0.Hosts.map HostT.cells))]])), (2, (.row 97 1 [[(LV.sl 5 0 (s10.map tree_wayT.cells).length)]])), (5, (.row 102 3 (s10.map tree_wayT.cells))), (3, (.row 72 2 (setN (s9.2.1.map tree_bestT.cells) (0 + ((y6.1.at_ : Int).toNat)) [(I y6.1.best.c0), (I y6.1.best.c1)]))), (4, (.mp ((mput s9.2.2 y6.1.at_ true).map (mpC I (fun z : Bool => (LV.bool z)))))), (6, (.row 102 3 [[(I y6.1.best.c0), (I y6.1.best.c1), (I y6.1.at_)]])), (7, (.row 35 3 [[(I x10.Seg), (I x10.Cost), (LV.bool x10.Up)]]))] ⟨rfl, rfl, rfl, rfl, rfl, rfl, rfl, rfl, rfl, rfl, rfl, rfl, trivial⟩ ⟨⟨rfl, rfl, blT⟩, ⟨⟨rfl, rfl, blT⟩, ⟨⟨rfl, rfl, NLss_bel (NLss_map' _)⟩, ⟨⟨rfl, rfl, NLss_bel nlT⟩, ⟨⟨rfl, rfl, bel_mp (f := I) (g := (fun z : Bool => (LV.bool z))) (fun _ => by repeat' first | exact True.intro | refine ⟨?_, ?_⟩) (fun _ => by repeat' first | exact True.intro | refine ⟨?_, ?_⟩) _ _⟩, ⟨⟨rfl, rfl, blT⟩, ⟨⟨rfl, rfl, blT⟩, trivial⟩⟩⟩⟩⟩⟩⟩ blT rfl ?_
       refine LoopW.forR (fun k11 s11 => [(1, (LV.ptr 0 0 0)), (3, (LV.iface 95 (LV.ptr 2 0 0))), (6, (LV.sl 3 0 (s9.2.1.map tree_bestT.cells).length)), (7, (LV.map 4)), (8, (LV.ptr 6 0 0)), (10, (LV.ptr 7 0 0)), (67, (LV.ro 3 (v11.Ports.map LinkT.cells))), (68, (I (((v11.Ports.map LinkT.cells).length : Nat) : Int))), (69, (I ((k10 : Nat) : Int))), (81, (LV.ro 2 (y13.2.1.map A2_Int.cells))), (82, (I (((y13.2.1.map A2_Int.cells).length : Nat) : Int))), (83, (I ((k11 : Nat) : Int)))]) (fun s11 => ⟨8, [(0, (.row 25 3 [[(I a0.Segs), (LV.ro 2 (a0.Plans.map PlanT.cells)), (LV.ro 2 (a0.Hosts.map HostT.cells))]])), (2, (.row 97 1 [[(LV.sl 5 0 (s11.map tree_wayT.cells).length)]])), (5, (.row 102 3 (s11.map tree_wayT.cells))), (3, (.row 72 2 (setN (s9.2.1.map tree_bestT.cells) (0 + ((y6.1.at_ : Int).toNat)) [(I y6.1.best.c0), (I y6.1.best.c1)]))), (4, (.mp ((mput s9.2.2 y6.1.at_ true).map (mpC I (fun z : Bool => (LV.bool z)))))), (6, (.row 102 3 [[(I y6.1.best.c0), (I y6.1.best.c1), (I y6.1.at_)]])), (7, (.row 35 3 [[(I x10.Seg), (I x10.Cost), (LV.bool x10.Up)]]))]⟩) hO11 (fun hl11 s11 hs11 => ?_) (fun hl11 k11 x11 s11 o11 hk11 hx11 b11 K11 hret11 hbrk11 => ?_)
       ·rw [hs11] at r11
        dsimp only [aftM] at r11
        have hd : decide (((y13.2.1.length : Nat) : Int) < (((y13.2.1.map A2_Int.cells).length : Nat) : Int)) = false := by rw [decide_eq_false_iff_not]; (try simp only [se_len, se_ch, List.length_map]); omega
        refine LoopW.round TT_ok [0, 1, 2, 3, 4, 5, 6, 7, 8, 10, 12, 15, 16, 21, 22, 23, 24, 44, 51, 67, 68, 69, 70, 81, 82, 83, 84, 95, 999999, 1000056, 1000057] ?_
        conv => whnf
        repeat' first | exact rA _ | refine parkI ?_ | (refine W.drawn TT_ok hmix1 rfl ?_; conv => whnf) | (refine W.drawnM (id := 12) 0 TT_ok hmix1 [0, 0, 0, 0, 0, 0, 0, 0, 0, 1, 1] [0, 0, 0, 1, 1, 1, 1, 1, 1, 1, 2] rfl ?_; conv => whnf) | exact clA _ | (refine And.intro ?_ ?_ <;> conv => whnf) | exact clG _ | (refine gand ?_ h; assumption) | exact clN _ | fail
        refine parkE (fun hc => ?_) (fun hc => ?_)
        ·exact (Bool.false_ne_true (hd.symm.trans hc)).elim
        ·clear hd
         conv => whnf
         repeat' first | exact rA _ | refine parkI ?_ | (refine W.drawn TT_ok hmix1 rfl ?_; conv => whnf) | (refine W.drawnM (id := 12) 0 TT_ok hmix1 [0, 0, 0, 0, 0, 0, 0, 0, 0, 1, 1] [0, 0, 0, 1, 1, 1, 1, 1, 1, 1, 2] rfl ?_; conv => whnf) | exact clA _ | (refine And.intro ?_ ?_ <;> conv => whnf) | exact clG _ | (refine gand ?_ h; assumption) | exact clN _ | fail
         have e := Option.some.inj r11
         refine LoopW.norm [(1, (LV.ptr 0 0 0)), (3, (LV.iface 95 (LV.ptr 2 0 0))), (6, (LV.sl 3 0 (s9.2.1.map tree_bestT.cells).length)), (7, (LV.map 4)), (8, (LV.ptr 6 0 0)), (67, (LV.ro 3 (v11.Ports.map LinkT.cells))), (68, (I (((v11.Ports.map LinkT.cells).length : Nat) : Int))), (69, (I ((k10 + 1 : Nat) : Int)))] 7 [(0, (.row 25 3 [[(I a0.Segs), (LV.ro 2 (a0.Plans.map PlanT.cells)), (LV.ro 2 (a0.Hosts.map HostT.cells))]])), (2, (.row 97 1 [[(LV.sl 5 0 (s11.map tree_wayT.cells).length)]])), (5, (.row 102 3 (s11.map tree_wayT.cells))), (3, (.row 72 2 (setN (s9.2.1.map tree_bestT.cells) (0 + ((y6.1.at_ : Int).toNat)) [(I y6.1.best.c0), (I y6.1.best.c1)]))), (4, (.mp ((mput s9.2.2 y6.1.at_ true).map (mpC I (fun z : Bool => (LV.bool z)))))), (6, (.row 102 3 [[(I y6.1.best.c0), (I y6.1.best.c1), (I y6.1.at_)]]))] ⟨rfl, rfl, rfl, rfl, rfl, rfl, rfl, (congrArg (LV.int .i64) (w64_nat _ (by omega))), trivial⟩ ⟨⟨rfl, rfl, blT⟩, ⟨⟨rfl, rfl, blT⟩, ⟨⟨rfl, rfl, NLss_bel (NLss_map' _)⟩, ⟨⟨rfl, rfl, NLss_bel nlT⟩, ⟨⟨rfl, rfl, bel_mp (f := I) (g := (fun z : Bool => (LV.bool z))) (fun _ => by repeat' first | exact True.intro | refine ⟨?_, ?_⟩) (fun _ => by repeat' first | exact True.intro | refine ⟨?_, ?_⟩) _ _⟩, ⟨⟨rfl, rfl, blT⟩, trivial⟩⟩⟩⟩⟩⟩ blT rfl (K10 _ e.symm)
       ·unfold tree_bests_c3 at b11
        have hd : decide (((k11 : Nat) : Int) < (((y13.2.1.map A2_Int.cells).length : Nat) : Int)) = true := by rw [decide_eq_true_eq]; (try simp only [se_len, se_ch, List.length_map] at hk11); (try simp only [se_len, se_ch, List.length_map]); omega
        refine LoopW.round TT_ok [0, 1, 2, 3, 4, 5, 6, 7, 8, 10, 12, 15, 16, 21, 22, 23, 24, 44, 51, 67, 68, 69, 70, 81, 82, 83, 84, 95, 999999, 1000056, 1000057] ?_
        conv => whnf
        repeat' first | exact rA _ | refine parkI ?_ | (refine W.drawn TT_ok hmix1 rfl ?_; conv => whnf) | (refine W.drawnM (id := 12) 0 TT_ok hmix1 [0, 0, 0, 0, 0, 0, 0, 0, 0, 1, 1] [0, 0, 0, 1, 1, 1, 1, 1, 1, 1, 2] rfl ?_; conv => whnf) | exact clA _ | (refine And.intro ?_ ?_ <;> conv => whnf) | exact clG _ | (refine gand ?_ h; assumption) | exact clN _ | fail
        refine parkE (fun hc => ?_) (fun hc => ?_)
        ·clear hd
         conv => whnf
         repeat' first | exact rA _ | refine parkI ?_ | (refine ⟨_, (kixF (f := A2_Int.cells) hx11), ?_⟩; conv => whnf) | exact fun _ => (⟨by decide, by decide⟩ : (0 : Int) ≤ 0 ∧ (0 : Int) < 2) | (refine ⟨symR (fun z : Bool => (LV.bool z)) (mput s9.2.2 y6.1.at_ true) x11.c0, fun _ => findsS (f := I) (g := (fun z : Bool => (LV.bool z))) ke_3 (mput s9.2.2 y6.1.at_ true) x11.c0, ?_⟩; rw [resM_sym (d := false)]; rotate_left; exact rfl; conv => whnf) | (refine W.drawn TT_ok hmix1 rfl ?_; conv => whnf) | (refine W.drawnM (id := 12) 0 TT_ok hmix1 [0, 0, 0, 0, 0, 0, 0, 0, 0, 1, 1] [0, 0, 0, 1, 1, 1, 1, 1, 1, 1, 2] rfl ?_; conv => whnf) | exact clA _ | (refine And.intro ?_ ?_ <;> conv => whnf) | exact clG _ | (refine gand ?_ h; assumption) | exact clN _ | fail
         refine parkE (fun hc => ?_) (fun hc => ?_)
         ·replace b11 := condT hc b11
          conv => whnf
          replace b11 := bindS b11
          obtain ⟨v15, hv15, b11⟩ := b11
          have i16 := gixF (f := PlanT.cells) hv15
          replace b11 := bindS b11
          obtain ⟨v17, hv17, b11⟩ := b11
          have i18 := gixF (f := LinkT.cells) hv17
          replace b11 := bindS b11
          obtain ⟨y19, hy19, b11⟩ := b11
          have c20 : CallW Try.prog 56 [(LV.iface 95 (LV.ptr 0 0 0)), (LV.iface 102 (LV.agg [(I y6.1.best.c0), (I (IntKind.i64.wrap (y6.1.best.c1 + v17.Cost))), (I x11.c0)]))] ⟨2, [(0, (.row 97 1 [[(LV.sl 1 0 (s11.map tree_wayT.cells).length)]])), (1, (.row 102 3 (s11.map tree_wayT.cells)))]⟩ (fun lv H' => lv = (LV.tup []) ∧ H' = ⟨3, [(0, (.row 97 1 [[(LV.sl 2 0 (y19.map tree_wayT.cells).length)]])), (2, (.row 102 3 (y19.map tree_wayT.cells)))]⟩) := w_container_heap_Push_x s11 (⟨(⟨y6.1.best.c0, (IntKind.i64.wrap (y6.1.best.c1 + v17.Cost))⟩ : tree_bestT), x11.c0⟩ : tree_wayT) _ hy19
          repeat' first | exact rA _ | refine parkI ?_ | (refine ⟨_, i16, ?_⟩; conv => whnf) | (refine ⟨_, i18, ?_⟩; conv => whnf) | exact (⟨by decide, by decide⟩ : (0 : Int) ≤ 0 ∧ (0 : Int) < 2) | exact (⟨by decide, by decide⟩ : (0 : Int) ≤ 1 ∧ (1 : Int) < 2) | (refine CallW.frame (nx2 := 10) (l2 := [(2, (.row 97 1 [[(LV.sl 9 0 (y19.map tree_wayT.cells).length)]])), (9, (.row 102 3 (y19.map tree_wayT.cells)))]) [(2, 0), (5, 1)] [(0, 2), (2, 9)] c20 rfl rfl ⟨⟨rfl, rfl, .inr rfl⟩, rfl, rfl, ⟨⟨rfl, rfl, .inl ⟨rfl, nlT⟩⟩, rfl, rfl, trivial⟩⟩ rfl rfl ⟨⟨rfl, rfl, .inr rfl⟩, rfl, rfl, ⟨⟨rfl, rfl, .inl ⟨rfl, nlT⟩⟩, rfl, rfl, trivial⟩⟩ ?_; conv => whnf) | (refine W.drawn TT_ok hmix1 rfl ?_; conv => whnf) | (refine W.drawnM (id := 12) 0 TT_ok hmix1 [0, 0, 0, 0, 0, 0, 0, 0, 0, 1, 1] [0, 0, 0, 1, 1, 1, 1, 1, 1, 1, 2] rfl ?_; conv => whnf) | exact clA _ | (refine And.intro ?_ ?_ <;> conv => whnf) | exact clG _ | (refine gand ?_ h; assumption) | exact clN _ | fail
          have e := Option.some.inj b11
          refine LoopW.ren [(0, 0), (2, 2), (9, 5), (3, 3), (4, 4), (6, 6), (7, 7)] [(1, (LV.ptr 0 0 0)), (3, (LV.iface 95 (LV.ptr 2 0 0))), (6, (LV.sl 3 0 (s9.2.1.map tree_bestT.cells).length)), (7, (LV.map 4)), (8, (LV.ptr 6 0 0)), (10, (LV.ptr 7 0 0)), (67, (LV.ro 3 (v11.Ports.map LinkT.cells))), (68, (I (((v11.Ports.map LinkT.cells).length : Nat) : Int))), (69, (I ((k10 : Nat) : Int))), (81, (LV.ro 2 (y13.2.1.map A2_Int.cells))), (82, (I (((y13.2.1.map A2_Int.cells).length : Nat) : Int))), (83, (I ((k11 + 1 : Nat) : Int)))] 8 [(0, (.row 25 3 [[(I a0.Segs), (LV.ro 2 (a0.Plans.map PlanT.cells)), (LV.ro 2 (a0.Hosts.map HostT.cells))]])), (2, (.row 97 1 [[(LV.sl 5 0 (y19.map tree_wayT.cells).length)]])), (5, (.row 102 3 (y19.map tree_wayT.cells))), (3, (.row 72 2 (setN (s9.2.1.map tree_bestT.cells) (0 + ((y6.1.at_ : Int).toNat)) [(I y6.1.best.c0), (I y6.1.best.c1)]))), (4, (.mp ((mput s9.2.2 y6.1.at_ true).map (mpC I (fun z : Bool => (LV.bool z)))))), (6, (.row 102 3 [[(I y6.1.best.c0), (I y6.1.best.c1), (I y6.1.at_)]])), (7, (.row 35 3 [[(I x10.Seg), (I x10.Cost), (LV.bool x10.Up)]]))] rfl ⟨rfl, rfl, rfl, rfl, rfl, rfl, rfl, rfl, rfl, rfl, rfl, (congrArg (LV.int .i64) (w64_nat _ (by omega))), trivial⟩ ⟨⟨rfl, rfl, .inl ⟨rfl, nlT⟩⟩, rfl, rfl, ⟨⟨rfl, rfl, .inr (by first | exact rfl | (show ([[(LV.sl 5 0 (y19.map tree_wayT.cells).length)]] : List (List LV)) = [[(LV.sl 5 0 (y19.map tree_wayT.cells).length)]]; exact smT))⟩, rfl, rfl, ⟨⟨rfl, rfl, .inl ⟨rfl, nlT⟩⟩, rfl, rfl, ⟨⟨rfl, rfl, .inl ⟨rfl, nlT⟩⟩, rfl, rfl, ⟨.inl ⟨rfl, (NL_mp (fun _ => by repeat' first | exact True.intro | refine ⟨?_, ?_⟩) (fun _ => by repeat' first | exact True.intro | refine ⟨?_, ?_⟩) _)⟩, rfl, rfl, ⟨⟨rfl, rfl, .inl ⟨rfl, nlT⟩⟩, rfl, rfl, ⟨⟨rfl, rfl, .inl ⟨rfl, nlT⟩⟩, rfl, rfl, trivial⟩⟩⟩⟩⟩⟩⟩ rfl (K11 _ e.symm)
         ·replace b11 := condF hc b11
          conv => whnf
          repeat' first | exact rA _ | refine parkI ?_ | (refine W.drawn TT_ok hmix1 rfl ?_; conv => whnf) | (refine W.drawnM (id := 12) 0 TT_ok hmix1 [0, 0, 0, 0, 0, 0, 0, 0, 0, 1, 1] [0, 0, 0, 1, 1, 1, 1, 1, 1, 1, 2] rfl ?_; conv => whnf) | exact clA _ | (refine And.intro ?_ ?_ <;> conv => whnf) | exact clG _ | (refine gand ?_ h; assumption) | exact clN _ | fail
          have e := Option.some.inj b11
          refine LoopW.norm [(1, (LV.ptr 0 0 0)), (3, (LV.iface 95 (LV.ptr 2 0 0))), (6, (LV.sl 3 0 (s9.2.1.map tree_bestT.cells).length)), (7, (LV.map 4)), (8, (LV.ptr 6 0 0)), (10, (LV.ptr 7 0 0)), (67, (LV.ro 3 (v11.Ports.map LinkT.cells))), (68, (I (((v11.Ports.map LinkT.cells).length : Nat) : Int))), (69, (I ((k10 : Nat) : Int))), (81, (LV.ro 2 (y13.2.1.map A2_Int.cells))), (82, (I (((y13.2.1.map A2_Int.cells).length : Nat) : Int))), (83, (I ((k11 + 1 : Nat) : Int)))] 8 [(0, (.row 25 3 [[(I a0.Segs), (LV.ro 2 (a0.Plans.map PlanT.cells)), (LV.ro 2 (a0.Hosts.map HostT.cells))]])), (2, (.row 97 1 [[(LV.sl 5 0 (s11.map tree_wayT.cells).length)]])), (5, (.row 102 3 (s11.map tree_wayT.cells))), (3, (.row 72 2 (setN (s9.2.1.map tree_bestT.cells) (0 + ((y6.1.at_ : Int).toNat)) [(I y6.1.best.c0), (I y6.1.best.c1)]))), (4, (.mp ((mput s9.2.2 y6.1.at_ true).map (mpC I (fun z : Bool => (LV.bool z)))))), (6, (.row 102 3 [[(I y6.1.best.c0), (I y6.1.best.c1), (I y6.1.at_)]])), (7, (.row 35 3 [[(I x10.Seg), (I x10.Cost), (LV.bool x10.Up)]]))] ⟨rfl, rfl, rfl, rfl, rfl, rfl, rfl, rfl, rfl, rfl, rfl, (congrArg (LV.int .i64) (w64_nat _ (by omega))), trivial⟩ ⟨⟨rfl, rfl, blT⟩, ⟨⟨rfl, rfl, blT⟩, ⟨⟨rfl, rfl, NLss_bel (NLss_map' _)⟩, ⟨⟨rfl, rfl, NLss_bel nlT⟩, ⟨⟨rfl, rfl, bel_mp (f := I) (g := (fun z : Bool => (LV.bool z))) (fun _ => by repeat' first | exact True.intro | refine ⟨?_, ?_⟩) (fun _ => by repeat' first | exact True.intro | refine ⟨?_, ?_⟩) _ _⟩, ⟨⟨rfl, rfl, blT⟩, ⟨⟨rfl, rfl, blT⟩, trivial⟩⟩⟩⟩⟩⟩⟩ blT rfl (K11 _ e.symm)
        ·exact (Bool.false_ne_true (hc.symm.trans hd)).elim
      ·exact (Bool.false_ne_true (hc.symm.trans hd)).elim
   ·replace b9 := condF hc b9
    conv => whnf
    have e := Option.some.inj b9
    replace e := hbrk9 _ e.symm
    rw [e] at r9
    dsimp only [aftM] at r9
    have e := Option.some.inj r9
    subst e
    repeat' first | exact rA _ | exact Or.inr ⟨_, rfl, congrArg (fun q => some (Blk.row 72 2 q)) rfl⟩ | (refine W.drawn TT_ok hmix1 rfl ?_; conv => whnf) | (refine W.drawnM (id := 12) 0 TT_ok hmix1 [0, 0, 0, 0, 0, 0, 0, 0, 0, 1, 1] [0, 0, 0, 1, 1, 1, 1, 1, 1, 1, 2] rfl ?_; conv => whnf) | exact clA _ | (refine And.intro ?_ ?_ <;> conv => whnf) | exact clG _ | (refine gand ?_ h; assumption) | exact clN _ | fail
 ·unfold tree_bests_c0 at b8
  have hd : decide (((k8 : Nat) : Int) < (((a0.Plans.map PlanT.cells).length : Nat) : Int)) = true := by rw [decide_eq_true_eq]; (try simp only [se_len, se_ch, List.length_map] at hk8); (try simp only [se_len, se_ch, List.length_map]); omega
  refine LoopW.round TT_ok [0, 1, 2, 3, 4, 5, 6, 7, 8, 10, 12, 15, 16, 21, 22, 23, 24, 44, 51, 67, 68, 69, 70, 81, 82, 83, 84, 95, 999999, 1000056, 1000057] ?_
  conv => whnf
  repeat' first | exact rA _ | refine parkI ?_ | (refine W.drawn TT_ok hmix1 rfl ?_; conv => whnf) | (refine W.drawnM (id := 12) 0 TT_ok hmix1 [0, 0, 0, 0, 0, 0, 0, 0, 0, 1, 1] [0, 0, 0, 1, 1, 1, 1, 1, 1, 1, 2] rfl ?_; conv => whnf) | exact clA _ | (refine And.intro ?_ ?_ <;> conv => whnf) | exact clG _ | (refine gand ?_ h; assumption) | exact clN _ | fail
  refine parkE (fun hc => ?_) (fun hc => ?_)
  ·clear hd
   conv => whnf
   replace b8 := bindS b8
   obtain ⟨y1, hy1, b8⟩ := b8
   have c2 : CallW Try.prog 56 [(LV.iface 95 (LV.ptr 0 0 0)), (LV.iface 102 (LV.agg [(I x8.ID), (I 0), (I ((k8 : Nat) : Int))]))] ⟨2, [(0, (.row 97 1 [[(LV.sl 1 0 (s8.map tree_wayT.cells).length)]])), (1, (.row 102 3 (s8.map tree_wayT.cells)))]⟩ (fun lv H' => lv = (LV.tup []) ∧ H' = ⟨3, [(0, (.row 97 1 [[(LV.sl 2 0 (y1.map tree_wayT.cells).length)]])), (2, (.row 102 3 (y1.map tree_wayT.cells)))]⟩) := w_container_heap_Push_x s8 (⟨(⟨x8.ID, 0⟩ : tree_bestT), ((k8 : Nat) : Int)⟩ : tree_wayT) _ hy1
   repeat' first | exact rA _ | refine parkI ?_ | (refine ⟨_, (kixF (f := PlanT.cells) hx8), ?_⟩; conv => whnf) | (refine CallW.frame (nx2 := 5) (l2 := [(2, (.row 97 1 [[(LV.sl 4 0 (y1.map tree_wayT.cells).length)]])), (4, (.row 102 3 (y1.map tree_wayT.cells)))]) [(2, 0), (1, 1)] [(0, 2), (2, 4)] c2 rfl rfl ⟨⟨rfl, rfl, .inr rfl⟩, rfl, rfl, ⟨⟨rfl, rfl, .inl ⟨rfl, nlT⟩⟩, rfl, rfl, trivial⟩⟩ rfl rfl ⟨⟨rfl, rfl, .inr rfl⟩, rfl, rfl, ⟨⟨rfl, rfl, .inl ⟨rfl, nlT⟩⟩, rfl, rfl, trivial⟩⟩ ?_; conv => whnf) | (refine W.drawn TT_ok hmix1 rfl ?_; conv => whnf) | (refine W.drawnM (id := 12) 0 TT_ok hmix1 [0, 0, 0, 0, 0, 0, 0, 0, 0, 1, 1] [0, 0, 0, 1, 1, 1, 1, 1, 1, 1, 2] rfl ?_; conv => whnf) | exact clA _ | (refine And.intro ?_ ?_ <;> conv => whnf) | exact clG _ | (refine gand ?_ h; assumption) | exact clN _ | fail
   have e := Option.some.inj b8
   refine LoopW.ren [(0, 0), (2, 2), (4, 1)] [(1, (LV.ptr 0 0 0)), (3, (LV.iface 95 (LV.ptr 2 0 0))), (21, (LV.ro 2 (a0.Plans.map PlanT.cells))), (22, (I (((a0.Plans.map PlanT.cells).length : Nat) : Int))), (23, (I ((k8 + 1 : Nat) : Int)))] 3 [(0, (.row 25 3 [[(I a0.Segs), (LV.ro 2 (a0.Plans.map PlanT.cells)), (LV.ro 2 (a0.Hosts.map HostT.cells))]])), (2, (.row 97 1 [[(LV.sl 1 0 (y1.map tree_wayT.cells).length)]])), (1, (.row 102 3 (y1.map tree_wayT.cells)))] rfl ⟨rfl, rfl, rfl, rfl, (congrArg (LV.int .i64) (w64_nat _ (by omega))), trivial⟩ ⟨⟨rfl, rfl, .inl ⟨rfl, nlT⟩⟩, rfl, rfl, ⟨⟨rfl, rfl, .inr (by first | exact rfl | (show ([[(LV.sl 1 0 (y1.map tree_wayT.cells).length)]] : List (List LV)) = [[(LV.sl 1 0 (y1.map tree_wayT.cells).length)]]; exact smT))⟩, rfl, rfl, ⟨⟨rfl, rfl, .inl ⟨rfl, nlT⟩⟩, rfl, rfl, trivial⟩⟩⟩ rfl (K8 _ e.symm)
  ·exact (Bool.false_ne_true (hc.symm.trans hd)).elim

theorem c_tree_bests (a0 : LanT) (r : (List tree_bestT)) (h : tree_bests a0 = some r) : CallP Try.prog 32 [(LV.agg [(I a0.Segs), (LV.ro 2 (a0.Plans.map PlanT.cells)), (LV.ro 2 (a0.Hosts.map HostT.cells))])] (LV.ro 2 (r.map tree_bestT.cells)) := by
 exact CallF.toP (cf_tree_bests a0 r h) nlA (NLss_map' _)

end Go.RX
