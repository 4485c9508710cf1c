/- The library's sort of timers by a closure that compares their IDs, laid at this program, as a function that turns the caller's row. -/
import Derived.Test.YtknjenjjhdhemaaGreatSeb
import Derived.Shelf.SlSortCmp.NoneTotal
namespace Go.Proofs
open Go.Shelf
set_option maxRecDepth 100000
def Tryz.sortT_ren : Go.Shelf.Ren := ⟨fun | 6 => 79 | 15 => 90 | 14 => 89 | 28 => 104 | 29 => 105 | 20 => 96 | 21 => 97 | 22 => 98 | 23 => 99 | 24 => 100 | 25 => 101 | 26 => 102 | 27 => 103 | 46 => 106 | 47 => 107 | 48 => 108 | 49 => 109 | 50 => 110 | 57 => 111 | n => n, fun | 22 => 45 | 24 => 49 | 25 => 89 | 3 => 3 | 39 => 84 | 0 => 0 | 53 => 97 | 55 => 117 | 4 => 4 | 46 => 109 | 45 => 108 | 50 => 113 | 5 => 5 | 9 => 9 | 66 => 118 | 70 => 122 | 76 => 124 | 77 => 70 | n => n, fun | n => n⟩
theorem Tryz.sortT : Go.Proofs.SlLaysF0.n6 Tryz.prog Tryz.sortT_ren := {
 mixed := by kernel_rfl
 f6 := ⟨"slices.SortFunc[[]footway/api.Timer,footway/api.Timer]", by decide, Tryz.func79.trans (congrArg some (by kernel_rfl))⟩
 f14 := ⟨"slices.pdqsortCmpFunc[footway/api.Timer]", by decide, Tryz.func89.trans (congrArg some (by kernel_rfl))⟩
 f15 := Tryz.func90.trans (congrArg some (by kernel_rfl))
 f20 := ⟨"slices.insertionSortCmpFunc[footway/api.Timer]", by decide, Tryz.func96.trans (congrArg some (by kernel_rfl))⟩
 f21 := ⟨"slices.heapSortCmpFunc[footway/api.Timer]", by decide, Tryz.func97.trans (congrArg some (by kernel_rfl))⟩
 f22 := ⟨"slices.breakPatternsCmpFunc[footway/api.Timer]", by decide, Tryz.func98.trans (congrArg some (by kernel_rfl))⟩
 f23 := ⟨"slices.choosePivotCmpFunc[footway/api.Timer]", by decide, Tryz.func99.trans (congrArg some (by kernel_rfl))⟩
 f24 := ⟨"slices.reverseRangeCmpFunc[footway/api.Timer]", by decide, Tryz.func100.trans (congrArg some (by kernel_rfl))⟩
 f25 := ⟨"slices.partialInsertionSortCmpFunc[footway/api.Timer]", by decide, Tryz.func101.trans (congrArg some (by kernel_rfl))⟩
 f26 := ⟨"slices.partitionEqualCmpFunc[footway/api.Timer]", by decide, Tryz.func102.trans (congrArg some (by kernel_rfl))⟩
 f27 := ⟨"slices.partitionCmpFunc[footway/api.Timer]", by decide, Tryz.func103.trans (congrArg some (by kernel_rfl))⟩
 f28 := Tryz.func104.trans (congrArg some (by kernel_rfl))
 f29 := Tryz.func105.trans (congrArg some (by kernel_rfl))
 f46 := ⟨"slices.siftDownCmpFunc[footway/api.Timer]", by decide, Tryz.func106.trans (congrArg some (by kernel_rfl))⟩
 f47 := Tryz.func107.trans (congrArg some (by kernel_rfl))
 f48 := Tryz.func108.trans (congrArg some (by kernel_rfl))
 f49 := ⟨"slices.medianAdjacentCmpFunc[footway/api.Timer]", by decide, Tryz.func109.trans (congrArg some (by kernel_rfl))⟩
 f50 := ⟨"slices.medianCmpFunc[footway/api.Timer]", by decide, Tryz.func110.trans (congrArg some (by kernel_rfl))⟩
 f57 := ⟨"slices.order2CmpFunc[footway/api.Timer]", by decide, Tryz.func111.trans (congrArg some (by kernel_rfl))⟩
 t0 := Tryz.underlying0
 a0 := Tryz.isAgg0
 z0 := Tryz.sizeOf0
 v0 := Tryz.zeroValue0
 t3 := Tryz.underlying3
 a3 := Tryz.isAgg3
 z3 := Tryz.sizeOf3
 v3 := Tryz.zeroValue3
 t4 := Tryz.underlying4
 a4 := Tryz.isAgg4
 z4 := Tryz.sizeOf4
 v4 := Tryz.zeroValue4
 t5 := Tryz.underlying5
 a5 := Tryz.isAgg5
 z5 := Tryz.sizeOf5
 v5 := Tryz.zeroValue5
 t9 := Tryz.underlying9
 a9 := Tryz.isAgg9
 z9 := Tryz.sizeOf9
 v9 := Tryz.zeroValue9
 t22 := Tryz.underlying45
 a22 := Tryz.isAgg45
 z22 := Tryz.sizeOf45
 v22 := Tryz.zeroValue45
 t25 := Tryz.underlying89
 a25 := Tryz.isAgg89
 z25 := Tryz.sizeOf89
 v25 := Tryz.zeroValue89
 t39 := Tryz.underlying84
 a39 := Tryz.isAgg84
 z39 := Tryz.sizeOf84
 v39 := Tryz.zeroValue84
 t45 := Tryz.underlying108
 a45 := Tryz.isAgg108
 z45 := Tryz.sizeOf108
 v45 := Tryz.zeroValue108
 t46 := Tryz.underlying109
 a46 := Tryz.isAgg109
 z46 := Tryz.sizeOf109
 v46 := Tryz.zeroValue109
 t50 := Tryz.underlying113
 a50 := Tryz.isAgg113
 z50 := Tryz.sizeOf113
 v50 := Tryz.zeroValue113
 t53 := Tryz.underlying97
 a53 := Tryz.isAgg97
 z53 := Tryz.sizeOf97
 v53 := Tryz.zeroValue97
 t55 := Tryz.underlying117
 a55 := Tryz.isAgg117
 z55 := Tryz.sizeOf117
 v55 := Tryz.zeroValue117
 t66 := Tryz.underlying118
 a66 := Tryz.isAgg118
 z66 := Tryz.sizeOf118
 v66 := Tryz.zeroValue118
 t70 := Tryz.underlying122
 a70 := Tryz.isAgg122
 z70 := Tryz.sizeOf122
 v70 := Tryz.zeroValue122
 t76 := Tryz.underlying124
 a76 := Tryz.isAgg124
 z76 := Tryz.sizeOf124
 v76 := Tryz.zeroValue124
 t77 := Tryz.underlying70
 a77 := Tryz.isAgg70
 z77 := Tryz.sizeOf70
 v77 := Tryz.zeroValue70 }
end Go.Proofs
open Go Go.RX Go.Proofs
namespace Go.RX
open Go.Sort

theorem relH_moreT {E : Env} {H : Heap} {w w' : World} (hr : RelH E H w) (hs : w.heap.size ≤ w'.heap.size) (hk : ∀ k, k < w.heap.size → w'.heap[k]? = w.heap[k]?)
  (hos : w'.os = w.os) (hout : w'.output = w.output) (ht : w'.tape = w.tape) : RelH E H w' ∧ Ext E w E w' := by
 have hext : Ext E w E w' := ⟨Nat.le_refl _, hs, fun k h _ => hk k h, fun k arr t fr h => ⟨arr, fr, (hk k (Array.getElem?_eq_some_iff.1 h).1).trans h, rfl⟩, fun _ _ => .inr rfl, fun b hb => hb, fun b hb => .inl hb, fun x k s _ h => .inr ⟨x, s, h⟩, hos, hout, ht⟩
 have gm : ∀ {l v}, G E w l v → G E w' l v := fun h => h.ext hr hext
 refine ⟨⟨hr.nx, ?_, ?_, hr.none, hr.lt, hr.inj, fun x k s h1 => ⟨(hr.nok x k s h1).1, Nat.lt_of_lt_of_le (hr.nok x k s h1).2 hs⟩, fun b hb => Nat.lt_of_lt_of_le (hr.okl b hb) hs⟩, hext⟩
 ·intro x e sz es hl
  rcases hr.row x e sz es hl with h1 | ⟨k, arr, h1, h2, h3, h4, h5⟩
  ·exact .inl h1
  ·exact .inr ⟨k, arr, h1, (hk k (hr.nok x k sz h1).2).trans h2, h3, h4, fun i cs hi => ⟨(h5 i cs hi).1, fun j y hj => gm ((h5 i cs hi).2 j y hj)⟩⟩
 ·intro x es hl
  obtain ⟨k, en, cl, h1, h2, h3, h4, h5, h6⟩ := hr.mp x es hl
  refine ⟨k, en, cl, h1, (hk k (hr.nok x k 0 h1).2).trans h2, h3, h4, h5, fun i p hp => ?_⟩
  obtain ⟨en', h7, h8, h9⟩ := h6 i p hp
  exact ⟨en', h7, gm h8, gm h9⟩
theorem Ext.thenT {E : Env} {w w' w2 : World} (h1 : Ext E w E w') (h2 : Ext E w' E w2) : Ext E w E w2 := by
 refine ⟨Nat.le_refl _, Nat.le_trans h1.size h2.size, fun k hk hn => (h2.keep k (Nat.lt_of_lt_of_le hk h1.size) hn).trans (h1.keep k hk hn), fun k arr t fr h => ?_, fun _ _ => .inr rfl, fun b hb => hb, fun b hb => .inl hb, fun x k s _ h => .inr ⟨x, s, h⟩, h2.os.trans h1.os, h2.output.trans h1.output, h2.tape.trans h1.tape⟩
 obtain ⟨a, f, h3, h4⟩ := h1.cells k arr t fr h
 obtain ⟨a', f', h5, h6⟩ := h2.cells k a t f h3
 exact ⟨a', f', h5, h6.trans h4⟩

def slices_SortFunc_Timer_wheel_spun_1 (a0 : List Tm) : Option (List Tm) :=
 grd (a0.length < 1000000 ∧ (a0.map (·.ID)).Nodup) <| some (a0.mergeSort fun x y => decide (x.ID ≤ y.ID))

theorem slices_SortFunc_Timer_wheel_spun_1_len {a0 r : List Tm} (h : slices_SortFunc_Timer_wheel_spun_1 a0 = some r) : r.length = a0.length := by
 unfold slices_SortFunc_Timer_wheel_spun_1 at h
 obtain ⟨_, h⟩ := grdS h
 rw [← Option.some.inj h, List.length_mergeSort]

def encT (x : Tm) : List Value := [.int .i64 x.ID, .int .i64 x.At]
def cmpT (x y : Tm) : Int := if x.ID < y.ID then -1 else if y.ID < x.ID then 1 else 0
theorem ltT (x y : Tm) : ltOf cmpT x y = decide (x.ID < y.ID) := by
 unfold ltOf cmpT
 by_cases h1 : x.ID < y.ID
 ·simp [h1]
 ·by_cases h2 : y.ID < x.ID <;> simp [h1, h2]
theorem swoT : SWO (ltOf cmpT) where
 irrefl x := by rw [ltT]; simp
 trans x y z h1 h2 := by rw [ltT] at *; simp at *; omega
 ntrans x y z h1 h2 := by rw [ltT] at *; simp at *; omega

theorem strict_uniq : ∀ {a b : List Tm}, a.Pairwise (fun x y => x.ID < y.ID) → b.Pairwise (fun x y => x.ID < y.ID) → a.Perm b → a = b
 | [], b, _, _, hp => (List.nil_perm.1 hp).symm
 | x :: a, [], _, _, hp => absurd hp.symm (by simp)
 | x :: a, y :: b, ha, hb, hp => by
  have hxy : x = y := by
   rcases List.mem_cons.1 (hp.mem_iff.1 (List.mem_cons_self : x ∈ x :: a)) with h | h
   ·exact h
   ·rcases List.mem_cons.1 (hp.mem_iff.2 (List.mem_cons_self : y ∈ y :: b)) with h2 | h2
    ·exact h2.symm
    ·have := List.rel_of_pairwise_cons ha h2
     have := List.rel_of_pairwise_cons hb h
     omega
  subst hxy
  rw [strict_uniq (List.Pairwise.of_cons ha) (List.Pairwise.of_cons hb) (List.Perm.cons_inv hp)]
theorem sorted_strict {l : List Tm} (hn : (l.map (·.ID)).Nodup) (hs : l.Pairwise fun x y => x.ID ≤ y.ID) : l.Pairwise fun x y => x.ID < y.ID := by
 rw [List.Nodup, List.pairwise_map] at hn
 exact hs.imp₂ (fun x y h1 h2 => by have : x.ID ≠ y.ID := h2; omega) hn
theorem mergeT (l : List Tm) : (l.mergeSort fun x y => decide (x.ID ≤ y.ID)).Pairwise fun x y => x.ID ≤ y.ID := by
 have := List.pairwise_mergeSort (le := fun x y : Tm => decide (x.ID ≤ y.ID)) (fun a b c h1 h2 => by simp at *; omega) (fun a b => by simp; omega) l
 exact this.imp fun h => by simpa using h
theorem pdqT {d' : Array Tm} {zs : List Tm} (hn : (zs.map (·.ID)).Nodup) (hp : PermIn 0 zs.length zs.toArray d') (hs : SortedIn (ltOf cmpT) 0 zs.length d') : d'.toList = zs.mergeSort fun x y => decide (x.ID ≤ y.ID) := by
 obtain ⟨h1, _, h3⟩ := hp
 have hsz : d'.size = zs.length := by simpa using h1
 have hperm : d'.toList.Perm zs := by
  have e1 : (d'.extract 0 zs.length) = d' := by rw [← hsz]; simp
  have e2 : (zs.toArray.extract 0 zs.length).toList = zs := by simp
  rw [e1, e2] at h3
  exact h3
 have hms := List.mergeSort_perm zs (fun x y => decide (x.ID ≤ y.ID))
 have nd : ∀ l : List Tm, l.Perm zs → (l.map (·.ID)).Nodup := fun l hl => (hl.map (·.ID)).nodup_iff.2 hn
 refine strict_uniq (sorted_strict (nd _ hperm) ?_) (sorted_strict (nd _ hms) (mergeT zs)) (hperm.trans hms.symm)
 rw [List.pairwise_iff_getElem]
 intro i j hi hj hij
 have hi' : i < d'.size := by simpa using hi
 have hj' : j < d'.size := by simpa using hj
 have := hs i j (Nat.zero_le _) hij (by omega)
 rw [ltT, getElem!_pos d' j hj', getElem!_pos d' i hi'] at this
 simp at this
 simpa using this

theorem getD_T {E : Env} {w : World} {arr : Array Value} {zs : List Tm} (h : ∀ (i : Nat) (cs : List LV), (zs.map TmC)[i]? = some cs → cs.length = 2 ∧ ∀ j y, cs[j]? = some y → G E w y (arr.getD (i * 2 + j) undef))
  {t : Nat} (ht : t < zs.length * 2) : arr.getD t undef = (encT (zs.toArray[t / 2]!))[t % 2]! := by
 have hi : t / 2 < zs.length := by omega
 have he : zs.toArray[t / 2]! = zs[t / 2] := by simp [hi]
 rw [he]
 have hc := h (t / 2) (TmC zs[t / 2]) (by rw [List.getElem?_map, List.getElem?_eq_getElem hi]; rfl)
 have hm : t % 2 = 0 ∨ t % 2 = 1 := by omega
 have hd : t / 2 * 2 + t % 2 = t := by omega
 rcases hm with hm | hm
 ·have := hc.2 0 (I (zs[t / 2]).ID) rfl
  rw [show t / 2 * 2 + 0 = t by omega] at this
  rw [hm]
  generalize arr.getD t undef = v at this
  cases this
  rfl
 ·have := hc.2 1 (I (zs[t / 2]).At) rfl
  rw [show t / 2 * 2 + 1 = t by omega] at this
  rw [hm]
  generalize arr.getD t undef = v at this
  cases this
  rfl

theorem sortTW {P : Program} {ρ : Go.Shelf.Ren} (L : Go.Proofs.SlLaysF0.n6 P ρ) (hf : Fun P (ρ.f 6)) (aE : ∀ w, (isAgg (ρ.t 24)).run P w = .ok true w) (zE : ∀ w, (Go.sizeOf (ρ.t 24)).run P w = .ok 2 w) (g : Nat)
  (eg : ∀ args w, (callFunc g args).run P w = .ok (.enter g args) w)
  (hcl : ∀ (x y : Tm) (W : World), Calls P g #[.agg (encT x).toArray, .agg (encT y).toArray] W fun e w' => e = .returned (.int .i64 (cmpT x y)) ∧ ∃ q os', w' = grow (W.drewN q) os')
  (e : Nat) (zs : List Tm) (r : List Tm) (h : slices_SortFunc_Timer_wheel_spun_1 zs = some r) :
  CallW P (ρ.f 6) [.sl 0 0 (zs.map TmC).length, .func (.func g) [] []] ⟨1, [(0, .row e 2 (zs.map TmC))]⟩ (fun lv H' => lv = .tup [] ∧ H' = ⟨1, [(0, .row e 2 (r.map TmC))]⟩) := by
 unfold slices_SortFunc_Timer_wheel_spun_1 at h
 obtain ⟨⟨hlen, hnd⟩, h⟩ := grdS h
 have h := Option.some.inj h
 subst h
 refine ⟨hf, fun E w vals hr hg => ?_⟩
 obtain ⟨hl, hg⟩ := hg
 obtain ⟨v, u, rfl⟩ : ∃ v u, vals = [v, u] := by
  match vals, hl with
  | [v, u], _ => exact ⟨v, u, rfl⟩
 have hv := hg 0 _ v rfl rfl
 have hu := hg 1 _ u rfl rfl
 have hu' : u = .func (.func g) #[] #[] := by
  cases hu with
  | func _ _ _ c d hc hd _ _ =>
   have h1 : c = #[] := Array.eq_empty_of_size_eq_zero (by simpa using hc)
   have h2 : d = #[] := Array.eq_empty_of_size_eq_zero (by simpa using hd)
   subst h1; subst h2; rfl
 subst hu'
 have hrow := hr.row 0 e 2 (zs.map TmC) rfl
 generalize hn : (zs.map TmC).length = n at hv
 have hn' : n = zs.length := by rw [← hn, List.length_map]
 cases hv with
 | slDead _ _ _ _ h1 =>
  rcases hrow with ⟨h2, _⟩ | ⟨k, arr, h2, _⟩ <;> rw [h1] at h2 <;> cases h2
 | slV _ _ h1 =>
  have hz : zs = [] := List.eq_nil_of_length_eq_zero hn'.symm
  subst hz
  refine (Go.Proofs.AnyF.slices_SortFunc_none L none 0 (.func (.func g) #[] #[]) w).mono fun e' w' he => ?_
  obtain ⟨rfl, rfl⟩ := he
  exact ⟨E, _, _, ⟨rfl, rfl⟩, (by rw [List.mergeSort_nil]; exact hr), .tup [] #[] rfl (fun i x hx => by simp at hx), (relH_moreT hr (Nat.le_refl _) (fun _ _ => rfl) rfl rfl rfl).2⟩
 | sl _ _ _ cap k sz arr0 t fr h1 hlc hcm hk hcap =>
  rcases hrow with ⟨h2, _⟩ | ⟨k', arr, h2, h3, h4, h5, h6⟩
  ·rw [h1] at h2; cases h2
  ·rw [h1] at h2; cases h2
   have hlt := (hr.nok 0 k 2 h1).2
   have h4' : zs.length * 2 ≤ arr.size := by simpa using h4
   have hH : HoldsK encT 2 w k 0 zs.toArray := by
    intro j hj
    have hj' : j < zs.length * 2 := by simpa using hj
    have hja : j < arr.size := by omega
    refine ⟨?_, ?_⟩
    ·have := getD_T h6 hj'
     simp only [Array.getD, hja, dif_pos] at this
     simp only [World.cell?, h3, Nat.zero_add, Option.isSome, Bool.false_eq_true, if_false]
     rw [Array.getElem?_eq_getElem hja]
     simp only [Array.getInternal_eq_getElem] at this
     rw [this, get_flatK encT 2 zs.toArray j (by simpa using hj')]
     rfl
    ·simp [World.frozen?, h3]
   subst hn'
   simp only [Nat.zero_mul]
   refine (Go.Proofs.AnyQ.slices_SortFunc L 2 aE zE encT (fun _ => rfl) (fun x v hv => by simp [encT] at hv; rcases hv with rfl | rfl <;> rfl) cmpT swoT g #[] k 0 cap zs.toArray w eg (fun m os dk _ x y => hcl x y _) hH hlt (by simp; omega)).mono fun e' w' he => ?_
   obtain ⟨rfl, d', q, os, hp, hs, rfl⟩ := he
   have hd : d' = (zs.mergeSort fun x y => decide (x.ID ≤ y.ID)).toArray := by
    rw [← pdqT hnd (by simpa using hp) (by simpa using hs)]
   subst hd
   generalize hss : (zs.mergeSort fun x y => decide (x.ID ≤ y.ID)) = ss
   have hsl : ss.length = zs.length := by rw [← hss, List.length_mergeSort]
   let arr' : Array Value := putCells id 0 (flatK encT 2 ss.toArray) arr
   have hsz' : arr'.size = arr.size := by simp [arr', putCells]
   have hget : ∀ t, t < ss.length * 2 → arr'.getD t undef = (encT (ss.toArray[t / 2]!))[t % 2]! := by
    intro t ht
    have : t < arr.size := by omega
    have hf := get_flatK encT 2 ss.toArray t (by simpa using ht)
    have hfs : t < (flatK encT 2 ss.toArray).size := by simpa using ht
    simp only [arr', putCells, Array.getD, Array.size_mapIdx, this, dif_pos, Array.getInternal_eq_getElem, Array.getElem_mapIdx]
    rw [if_pos ⟨Nat.zero_le _, by simpa using ht⟩, Nat.sub_zero, hf]
    rfl
   have hgetC : ∀ i (hi : i < ss.length), arr'.getD (i * 2 + 0) undef = .int .i64 ss[i].ID ∧ arr'.getD (i * 2 + 1) undef = .int .i64 ss[i].At := by
    intro i hi
    have e1 := hget (i * 2 + 0) (by omega)
    have e2 := hget (i * 2 + 1) (by omega)
    rw [show (i * 2 + 0) / 2 = i by omega, show (i * 2 + 0) % 2 = 0 by omega] at e1
    rw [show (i * 2 + 1) / 2 = i by omega, show (i * 2 + 1) % 2 = 1 by omega] at e2
    have he : ss.toArray[i]! = ss[i] := by simp [hi]
    rw [he] at e1 e2
    exact ⟨e1, e2⟩
   have hst := relH_store (w' := putRow id (Sort.ahead w q) k 0 (flatK encT 2 ss.toArray)) (es' := ss.map TmC) (arr' := arr') hr (x := 0) rfl h1 h3 (by
     simp [putRow, mapBlock, Sort.ahead, Array.getElem?_modify, h3, onCells, arr']) hsz' (by simp [putRow, mapBlock, Sort.ahead]) (by
     intro j hj hne
     simp [putRow, mapBlock, Sort.ahead, Array.getElem?_modify, Ne.symm hne]) rfl rfl rfl (by simp; omega) (by
     intro t ht
     show (arr'.getD t undef).oneCell' = true
     have ht' : t < ss.length * 2 := by simpa using ht
     have hi : t / 2 < ss.length := by omega
     obtain ⟨c1, c2⟩ := hgetC (t / 2) hi
     have hm : t % 2 = 0 ∨ t % 2 = 1 := by omega
     rcases hm with hm | hm
     ·rw [show t / 2 * 2 + 0 = t by omega] at c1; rw [c1]; rfl
     ·rw [show t / 2 * 2 + 1 = t by omega] at c2; rw [c2]; rfl) (by
     intro i cs hi
     rw [List.getElem?_map] at hi
     obtain ⟨z, hz, rfl⟩ := Option.map_eq_some_iff.1 hi
     obtain ⟨hlt2, rfl⟩ := List.getElem?_eq_some_iff.1 hz
     obtain ⟨c1, c2⟩ := hgetC i hlt2
     refine ⟨rfl, fun j y hj => ?_⟩
     match j, hj with
     | 0, hj =>
      simp at hj; subst hj
      rw [c1]; exact .int _ _
     | 1, hj =>
      simp at hj; subst hj
      rw [c2]; exact .int _ _)
   have hmo := relH_moreT (w' := grow (putRow id (Sort.ahead w q) k 0 (flatK encT 2 ss.toArray)) os) hst.1 (by simp [grow]) (by
    intro j hj
    show ((putRow id (Sort.ahead w q) k 0 (flatK encT 2 ss.toArray)).heap ++ os)[j]? = _
    rw [Array.getElem?_append_left hj]) rfl rfl rfl
   exact ⟨E, _, _, ⟨rfl, rfl⟩, hmo.1, .tup [] #[] rfl (fun i x hx => by simp at hx), hst.2.thenT hmo.2⟩

open Go.RowKit Go.Lib in
set_option maxHeartbeats 1000000 in
theorem isNaN_T (x : Int) (W : World) : Calls Tryz.prog 91 #[.int .i64 x] W fun e w' => e = .returned (.bool false) ∧ w' = W := by
 go_enter Tryz.func91, Tryz.ntmps91
 go_wp2
 go_ret
 simp
open Go.RowKit Go.Lib in
set_option maxHeartbeats 1000000 in
theorem compare_T (x y : Int) (W : World) : Calls Tryz.prog 81 #[.int .i64 x, .int .i64 y] W fun e w' => e = .returned (.int .i64 (if x < y then -1 else if y < x then 1 else 0)) ∧ w' = W := by
 have hx := fun z W' => isNaN_T z W'
 go_enter Tryz.func81, Tryz.ntmps81
 go_wp2_with (go_at_call 91; refine (hx _ _).mono ?_; rintro e w' ⟨rfl, rfl⟩)
 all_goals (go_ret; first | exact ⟨rfl, rfl⟩ | (refine ⟨?_, rfl⟩; simp; omega) | simp)
open Go.RowKit Go.Lib in
set_option maxHeartbeats 1000000 in
theorem closure_T (x y : Tm) (W : World) : Calls Tryz.prog 80 #[.agg (encT x).toArray, .agg (encT y).toArray] W fun e w' => e = .returned (.int .i64 (cmpT x y)) ∧ ∃ q os', w' = grow (W.drewN q) os' := by
 have hcon := fun W' => compare_T x.ID y.ID W'
 unfold cmpT
 generalize (if x.ID < y.ID then (-1 : Int) else if y.ID < x.ID then 1 else 0) = r at hcon ⊢
 obtain ⟨a, b⟩ := x
 obtain ⟨c, d⟩ := y
 simp only [encT] at *
 go_enter Tryz.func80, Tryz.ntmps80
 go_wp2_with (go_at_call 81; refine (hcon _).mono ?_; rintro e w' ⟨rfl, rfl⟩)
 go_ret
 exact ⟨rfl, 0, _, by rw [alloc_eq_grow, alloc_eq_grow, grow_grow]; rfl⟩

set_option maxRecDepth 10000 in
theorem w_slices_SortFunc_Timer_wheel_spun_1 (a0 : List Tm) (r : List Tm) (h : slices_SortFunc_Timer_wheel_spun_1 a0 = some r) : CallW Tryz.prog 79 [(LV.sl 0 0 (a0.map TmC).length), (LV.func (.func 80) [] [])] ⟨1, [(0, (.row 49 2 (a0.map TmC)))]⟩ (fun lv H' => lv = (LV.tup []) ∧ H' = ⟨1, [(0, (.row 49 2 (r.map TmC)))]⟩) :=
 sortTW Tryz.sortT ⟨Tryz.f79, Tryz.func79, rfl, rfl⟩ Tryz.isAgg49 Tryz.sizeOf49 80 (enters_of Tryz.func80 (by kernel_rfl) rfl) closure_T 49 a0 r h
end Go.RX
