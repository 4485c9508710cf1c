/- The library's sort of ints, laid at this program, as a function that turns the caller's row. -/
import Derived.Test.YtljecfgfbebjiaaSeb
import Derived.Ground.NamesProg
import Derived.Shelf.Slices.In.SortNone
import Derived.Shelf.Sort.Plain
namespace Go.Proofs
open Go.Shelf
def Try.laySort_ren : Go.Shelf.Ren := ⟨fun | 189 => 73 | 125 => 90 | 257 => 89 | 128 => 105 | 129 => 106 | 294 => 96 | 295 => 97 | 296 => 98 | 297 => 99 | 298 => 100 | 299 => 101 | 216 => 102 | 300 => 103 | 301 => 104 | 328 => 110 | 329 => 111 | 330 => 112 | 331 => 113 | 332 => 114 | 215 => 115 | 343 => 116 | n => n, fun | 28 => 47 | 3 => 3 | 46 => 127 | 0 => 0 | 51 => 160 | 53 => 162 | 4 => 4 | 183 => 153 | 182 => 152 | 131 => 157 | 5 => 5 | 9 => 9 | 218 => 168 | 222 => 172 | 228 => 174 | 229 => 175 | n => n, fun | n => n⟩
theorem Try.laySort : Go.Proofs.Lays.n189 Try.prog Try.laySort_ren := {
 mixed := by kernel_rfl
 f125 := Try.func90.trans (congrArg some (by kernel_rfl))
 f128 := Try.func105.trans (congrArg some (by kernel_rfl))
 f129 := Try.func106.trans (congrArg some (by kernel_rfl))
 f189 := Try.func73.trans (congrArg some (by kernel_rfl))
 f215 := Try.func115.trans (congrArg some (by kernel_rfl))
 f216 := Try.func102.trans (congrArg some (by kernel_rfl))
 f257 := Try.func89.trans (congrArg some (by kernel_rfl))
 f294 := Try.func96.trans (congrArg some (by kernel_rfl))
 f295 := Try.func97.trans (congrArg some (by kernel_rfl))
 f296 := Try.func98.trans (congrArg some (by kernel_rfl))
 f297 := Try.func99.trans (congrArg some (by kernel_rfl))
 f298 := Try.func100.trans (congrArg some (by kernel_rfl))
 f299 := Try.func101.trans (congrArg some (by kernel_rfl))
 f300 := Try.func103.trans (congrArg some (by kernel_rfl))
 f301 := Try.func104.trans (congrArg some (by kernel_rfl))
 f328 := Try.func110.trans (congrArg some (by kernel_rfl))
 f329 := Try.func111.trans (congrArg some (by kernel_rfl))
 f330 := Try.func112.trans (congrArg some (by kernel_rfl))
 f331 := Try.func113.trans (congrArg some (by kernel_rfl))
 f332 := Try.func114.trans (congrArg some (by kernel_rfl))
 f343 := Try.func116.trans (congrArg some (by kernel_rfl))
 t0 := Try.underlying0
 a0 := Try.isAgg0
 z0 := Try.sizeOf0
 v0 := Try.zeroValue0
 t3 := Try.underlying3
 a3 := Try.isAgg3
 z3 := Try.sizeOf3
 v3 := Try.zeroValue3
 t4 := Try.underlying4
 a4 := Try.isAgg4
 z4 := Try.sizeOf4
 v4 := Try.zeroValue4
 t5 := Try.underlying5
 a5 := Try.isAgg5
 z5 := Try.sizeOf5
 v5 := Try.zeroValue5
 t9 := Try.underlying9
 a9 := Try.isAgg9
 z9 := Try.sizeOf9
 v9 := Try.zeroValue9
 t28 := Try.underlying47
 a28 := Try.isAgg47
 z28 := Try.sizeOf47
 v28 := Try.zeroValue47
 t46 := Try.underlying127
 a46 := Try.isAgg127
 z46 := Try.sizeOf127
 v46 := Try.zeroValue127
 t51 := Try.underlying160
 a51 := Try.isAgg160
 z51 := Try.sizeOf160
 v51 := Try.zeroValue160
 t53 := Try.underlying162
 a53 := Try.isAgg162
 z53 := Try.sizeOf162
 v53 := Try.zeroValue162
 t131 := Try.underlying157
 a131 := Try.isAgg157
 z131 := Try.sizeOf157
 v131 := Try.zeroValue157
 t182 := Try.underlying152
 a182 := Try.isAgg152
 z182 := Try.sizeOf152
 v182 := Try.zeroValue152
 t183 := Try.underlying153
 a183 := Try.isAgg153
 z183 := Try.sizeOf153
 v183 := Try.zeroValue153
 t218 := Try.underlying168
 a218 := Try.isAgg168
 z218 := Try.sizeOf168
 v218 := Try.zeroValue168
 t222 := Try.underlying172
 a222 := Try.isAgg172
 z222 := Try.sizeOf172
 v222 := Try.zeroValue172
 t228 := Try.underlying174
 a228 := Try.isAgg174
 z228 := Try.sizeOf174
 v228 := Try.zeroValue174
 t229 := Try.underlying175
 a229 := Try.isAgg175
 z229 := Try.sizeOf175
 v229 := Try.zeroValue175 }
end Go.Proofs
open Go Go.RX Go.Proofs
namespace Go.RX
open Go.Sort

theorem relH_more {E : Env} {H : Heap} {w w' : World} (hr : RelH E H w) (hs : w.heap.size ≤ w'.heap.size) (hk : ∀ k, k < w.heap.size → w'.heap[k]? = w.heap[k]?)
  (hos : w'.os = w.os) (hout : w'.output = w.output) (ht : w'.tape = w.tape) : RelH E H w' ∧ Ext E w E w' := by
 have hext : Ext E w E w' := ⟨Nat.le_refl _, hs, fun k h _ => hk k h, fun k arr t fr h => ⟨arr, fr, (hk k (Array.getElem?_eq_some_iff.1 h).1).trans h, rfl⟩, fun _ _ => .inr rfl, fun b hb => hb, fun b hb => .inl hb, fun x k s _ h => .inr ⟨x, s, h⟩, hos, hout, ht⟩
 have gm : ∀ {l v}, G E w l v → G E w' l v := fun h => h.ext hr hext
 refine ⟨⟨hr.nx, ?_, ?_, hr.none, hr.lt, hr.inj, fun x k s h1 => ⟨(hr.nok x k s h1).1, Nat.lt_of_lt_of_le (hr.nok x k s h1).2 hs⟩, fun b hb => Nat.lt_of_lt_of_le (hr.okl b hb) hs⟩, hext⟩
 ·intro x e sz es hl
  rcases hr.row x e sz es hl with h1 | ⟨k, arr, h1, h2, h3, h4, h5⟩
  ·exact .inl h1
  ·exact .inr ⟨k, arr, h1, (hk k (hr.nok x k sz h1).2).trans h2, h3, h4, fun i cs hi => ⟨(h5 i cs hi).1, fun j y hj => gm ((h5 i cs hi).2 j y hj)⟩⟩
 ·intro x es hl
  obtain ⟨k, en, cl, h1, h2, h3, h4, h5, h6⟩ := hr.mp x es hl
  refine ⟨k, en, cl, h1, (hk k (hr.nok x k 0 h1).2).trans h2, h3, h4, h5, fun i p hp => ?_⟩
  obtain ⟨en', h7, h8, h9⟩ := h6 i p hp
  exact ⟨en', h7, gm h8, gm h9⟩

theorem Ext.then {E : Env} {w w' w2 : World} (h1 : Ext E w E w') (h2 : Ext E w' E w2) : Ext E w E w2 := by
 refine ⟨Nat.le_refl _, Nat.le_trans h1.size h2.size, fun k hk hn => (h2.keep k (Nat.lt_of_lt_of_le hk h1.size) hn).trans (h1.keep k hk hn), fun k arr t fr h => ?_, fun _ _ => .inr rfl, fun b hb => hb, fun b hb => .inl hb, fun x k s _ h => .inr ⟨x, s, h⟩, h2.os.trans h1.os, h2.output.trans h1.output, h2.tape.trans h1.tape⟩
 obtain ⟨a, f, h3, h4⟩ := h1.cells k arr t fr h
 obtain ⟨a', f', h5, h6⟩ := h2.cells k a t f h3
 exact ⟨a', f', h5, h6.trans h4⟩

def slices_Sort_int (a0 : List Int) : Option (List Int) :=
 grd (a0.length < 4611686018427387904) <| some (a0.mergeSort fun x y => decide (x ≤ y))

theorem slices_Sort_int_len {a0 r : List Int} (h : slices_Sort_int a0 = some r) : r.length = a0.length := by
 unfold slices_Sort_int at h
 obtain ⟨_, h⟩ := grdS h
 rw [← Option.some.inj h, List.length_mergeSort]

theorem getD_ints {E : Env} {w : World} {arr : Array Value} {zs : List Int} (h : ∀ (i : Nat) (cs : List LV), (zs.map iC)[i]? = some cs → cs.length = 1 ∧ ∀ j y, cs[j]? = some y → G E w y (arr.getD (i * 1 + j) undef))
  {i : Nat} (hi : i < zs.length) : arr.getD i undef = .int .i64 zs[i] := by
 have h1 := (h i (iC zs[i]) (by rw [List.getElem?_map, List.getElem?_eq_getElem hi]; rfl)).2 0 (I zs[i]) rfl
 simp only [Nat.mul_one, Nat.add_zero] at h1
 generalize arr.getD i undef = v at h1
 cases h1
 rfl

theorem sortW {P : Program} {ρ : Go.Shelf.Ren} (L : Go.Proofs.Lays.n189 P ρ) (hf : Fun P (ρ.f 189)) (e : Nat) (zs : List Int) (r : List Int) (h : slices_Sort_int zs = some r) :
  CallW P (ρ.f 189) [.sl 0 0 (zs.map iC).length] ⟨1, [(0, .row e 1 (zs.map iC))]⟩ (fun lv H' => lv = .tup [] ∧ H' = ⟨1, [(0, .row e 1 (r.map iC))]⟩) := by
 unfold slices_Sort_int at h
 obtain ⟨hlen, h⟩ := grdS h
 have h := Option.some.inj h
 subst h
 refine ⟨hf, fun E w vals hr hg => ?_⟩
 obtain ⟨hl, hg⟩ := hg
 obtain ⟨v, rfl⟩ : ∃ v, vals = [v] := by
  match vals, hl with
  | [v], _ => exact ⟨v, rfl⟩
 have hv := hg 0 _ v rfl rfl
 have hrow := hr.row 0 e 1 (zs.map iC) rfl
 generalize hn : (zs.map iC).length = n at hv
 have hn' : n = zs.length := by rw [← hn, List.length_map]
 cases hv with
 | slDead _ _ _ _ h1 =>
  rcases hrow with ⟨h2, _⟩ | ⟨k, arr, h2, _⟩ <;> rw [h1] at h2 <;> cases h2
 | slV _ _ h1 =>
  have hz : zs = [] := List.eq_nil_of_length_eq_zero hn'.symm
  subst hz
  refine (Go.Proofs.Any.slices_Sort_int_none L none 0 w).mono fun e' w' he => ?_
  obtain ⟨rfl, rfl⟩ := he
  exact ⟨E, _, _, ⟨rfl, rfl⟩, (by rw [List.mergeSort_nil]; exact hr), .tup [] #[] rfl (fun i x hx => by simp at hx), (relH_more hr (Nat.le_refl _) (fun _ _ => rfl) rfl rfl rfl).2⟩
 | sl _ _ _ cap k sz arr0 t fr h1 hlc hcm hk hcap =>
  rcases hrow with ⟨h2, _⟩ | ⟨k', arr, h2, h3, h4, h5, h6⟩
  ·rw [h1] at h2; cases h2
  ·rw [h1] at h2; cases h2
   have hlt := (hr.nok 0 k 1 h1).2
   have h4' : zs.length ≤ arr.size := by simpa using h4
   have hH : Holds (Value.int .i64) w k 0 zs.toArray := by
    intro j hj
    have hj' : j < zs.length := by simpa using hj
    have hja : j < arr.size := by omega
    refine ⟨?_, ?_⟩
    ·have := getD_ints h6 hj'
     simp only [Array.getD, hja, dif_pos] at this
     simp only [World.cell?, h3, Nat.zero_add, Option.isSome, Bool.false_eq_true, if_false]
     rw [Array.getElem?_eq_getElem hja]
     simp only [Array.getInternal_eq_getElem] at this
     rw [this]
     simp [hj']
    ·simp [World.frozen?, h3]
   subst hn'
   simp only [Nat.zero_mul]
   refine (Go.Proofs.Any.slices_Sort_int L k 0 cap zs w hH hlt hlen).mono fun e' w' he => ?_
   obtain ⟨rfl, q, os, rfl⟩ := he
   generalize hss : (zs.mergeSort fun x y => decide (x ≤ y)) = ss
   have hsl : ss.length = zs.length := by rw [← hss, List.length_mergeSort]
   let arr' : Array Value := putCells (Value.int .i64) 0 ss.toArray arr
   have hsz' : arr'.size = arr.size := by simp [arr', putCells]
   have hget : ∀ i (hi : i < ss.length), arr'.getD i undef = .int .i64 ss[i] := by
    intro i hi
    have : i < arr.size := by omega
    simp [arr', putCells, Array.getD, this, hi]
   have hst := relH_store (w' := putRow (Value.int .i64) (Sort.ahead w q) k 0 ss.toArray) (es' := ss.map iC) (arr' := arr') hr (x := 0) rfl h1 h3 (by
     simp [putRow, mapBlock, Sort.ahead, Array.getElem?_modify, h3, onCells, arr']) hsz' (by simp [putRow, mapBlock, Sort.ahead]) (by
     intro j hj hne
     simp [putRow, mapBlock, Sort.ahead, Array.getElem?_modify, Ne.symm hne]) rfl rfl rfl (by simp; omega) (by
     intro i hi
     show (arr'.getD i undef).oneCell' = true
     have hi' : i < ss.length := by simpa using hi
     rw [hget i hi']; rfl) (by
     intro i cs hi
     rw [List.getElem?_map] at hi
     obtain ⟨z, hz, rfl⟩ := Option.map_eq_some_iff.1 hi
     obtain ⟨hlt2, rfl⟩ := List.getElem?_eq_some_iff.1 hz
     refine ⟨rfl, fun j y hj => ?_⟩
     match j, hj with
     | 0, hj =>
      simp at hj; subst hj
      rw [Nat.mul_one, Nat.add_zero, hget i hlt2]
      exact .int _ _)
   have hmo := relH_more (w' := grow (putRow (Value.int .i64) (Sort.ahead w q) k 0 ss.toArray) os) hst.1 (by simp [grow]) (by
    intro j hj
    show ((putRow (Value.int .i64) (Sort.ahead w q) k 0 ss.toArray).heap ++ os)[j]? = _
    rw [Array.getElem?_append_left hj]) rfl rfl rfl
   exact ⟨E, _, _, ⟨rfl, rfl⟩, hmo.1, .tup [] #[] rfl (fun i x hx => by simp at hx), hst.2.then hmo.2⟩

set_option maxRecDepth 10000 in
theorem w_slices_Sort_int (a0 : List Int) (r : List Int) (h : slices_Sort_int a0 = some r) : CallW Try.prog 73 [(LV.sl 0 0 (a0.map iC).length)] ⟨1, [(0, (.row 3 1 (a0.map iC)))]⟩ (fun lv H' => lv = (LV.tup []) ∧ H' = ⟨1, [(0, (.row 3 1 (r.map iC)))]⟩) :=
 sortW Try.laySort ⟨Try.f73, Try.func73, rfl, rfl⟩ 3 a0 r h
end Go.RX
