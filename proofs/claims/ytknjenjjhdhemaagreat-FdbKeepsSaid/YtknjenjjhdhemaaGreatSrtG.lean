/- The library's Grow of a nil row of timers, laid at this program, as a function that answers a new row. -/
import Derived.Test.YtknjenjjhdhemaaGreatSeb
import Derived.Shelf.Spec.SlicesGrow
namespace Go.Proofs
open Go.Shelf
set_option maxRecDepth 100000
def Tryz.growT_ren : Go.Shelf.Ren := ⟨fun | 4 => 92 | n => n, fun | 22 => 45 | 25 => 49 | 3 => 3 | 4 => 4 | 9 => 9 | 20 => 20 | 0 => 0 | 2 => 3 | n => n, fun | n => n⟩
theorem Tryz.growT : Go.Proofs.Lays8.n4 Tryz.prog Tryz.growT_ren := {
 mixed := by kernel_rfl
 f4 := ⟨"slices.Grow[[]footway/api.Timer,footway/api.Timer]", by decide, Tryz.func92.trans (congrArg some (by kernel_rfl))⟩
 t0 := Tryz.underlying0
 a0 := Tryz.isAgg0
 z0 := Tryz.sizeOf0
 v0 := Tryz.zeroValue0
 t3 := Tryz.underlying3
 a3 := Tryz.isAgg3
 z3 := Tryz.sizeOf3
 v3 := Tryz.zeroValue3
 t4 := Tryz.underlying4
 a4 := Tryz.isAgg4
 z4 := Tryz.sizeOf4
 v4 := Tryz.zeroValue4
 t9 := Tryz.underlying9
 a9 := Tryz.isAgg9
 z9 := Tryz.sizeOf9
 v9 := Tryz.zeroValue9
 t20 := Tryz.underlying20
 a20 := Tryz.isAgg20
 z20 := Tryz.sizeOf20
 v20 := Tryz.zeroValue20
 t22 := Tryz.underlying45
 a22 := Tryz.isAgg45
 z22 := Tryz.sizeOf45
 v22 := Tryz.zeroValue45 }
end Go.Proofs
open Go Go.RX Go.Proofs
namespace Go.RX

def slices_Grow_Timer (a1 : Int) : Option (List Tm) :=
 grd ((0 : Int) ≤ a1 ∧ a1 ≤ 1000000) <| some []

theorem growTW {P : Program} {ρ : Go.Shelf.Ren} (L : Go.Proofs.Lays8.n4 P ρ) (hf : Fun P (ρ.f 4)) (z : Value) (b : Nat) (hi : (P.info? (ρ.t 25)).map (fun i => (i.zero, i.size, i.bytes)) = some (some z, 2, b)) (hb : b ≤ 16) (hzc : z.cells.size = 2)
  (a1 : Int) (r : List Tm) (h : slices_Grow_Timer a1 = some r) : CallF P (ρ.f 4) [.nils, .int .i64 a1] (ρ.t 25) 2 (r.map TmC) := by
 obtain ⟨i0, hi0, hi⟩ := Option.map_eq_some_iff.1 hi
 simp only [Prod.mk.injEq] at hi
 obtain ⟨hz0, hs0, rfl⟩ := hi
 unfold slices_Grow_Timer at h
 obtain ⟨⟨h0, h1⟩, h⟩ := grdS h
 have h := Option.some.inj h
 subst h
 obtain ⟨n, rfl⟩ : ∃ n : Nat, a1 = (n : Int) := ⟨a1.toNat, by omega⟩
 have hn : n ≤ 1000000 := by omega
 refine ⟨hf, fun E w vals hr hg => ?_⟩
 obtain ⟨hl, hg⟩ := hg
 obtain ⟨v, u, rfl⟩ : ∃ v u, vals = [v, u] := by
  match vals, hl with
  | [v, u], _ => exact ⟨v, u, rfl⟩
 have hv := hg 0 _ v rfl rfl
 have hu := hg 1 _ u rfl rfl
 cases hv
 cases hu
 by_cases hz : n = 0
 ·subst hz
  refine (Any8.slices_Grow_room L none 0 0 0 w (Nat.le_refl _) (by omega) (by omega) (Nat.le_refl _)).mono fun e' w' he => ?_
  obtain ⟨rfl, rfl⟩ := he
  obtain ⟨E', hr', hx', hφ⟩ := relH_virt hr none (ρ.t 25) 2
  have hnx : E.nx = 0 := hr.nx
  exact ⟨E', _, _, ⟨rfl, rfl⟩, hr', .slV 0 2 hφ, hx'⟩
 ·refine (Any8.slices_Grow_grow L i0 z hi0 hz0 (by omega) none 0 0 n [] w (Nat.le_refl _) (by omega) (by
   have : (0 + n) * i0.bytes ≤ 1000000 * 16 := Nat.mul_le_mul (by omega) hb
   omega) (by omega) (by simp) (fun _ => rfl) (fun a ha => by cases ha)).mono fun e' w' he => ?_
  obtain ⟨rfl, rfl⟩ := he
  have hge := grownCap_ge w (0 + n) 0 (ρ.t 25)
  have hcm : grownCap w (0 + n) 0 (ρ.t 25) ≤ maxLen := grownCap_le_maxLen w _ _ _ (by simp only [maxLen]; omega)
  generalize grownCap w (0 + n) 0 (ρ.t 25) = c at hge hcm ⊢
  generalize ha : (([] : List Value).toArray ++ Builtin.zeroCells z.cells (0 + n - 0) ++ Builtin.zeroCells z.cells (c - (0 + n))) = arr
  have hsz : arr.size = c * 2 := by
   rw [← ha]
   simp only [Array.size_append, List.size_toArray, List.length_nil, size_zeroCells, hzc]
   omega
  obtain ⟨E', hr', hx', hφ⟩ := relH_new (w0 := w.drew) hr (ρ.t 25) 2 [] arr rfl rfl rfl rfl (by simp) (fun i hi => by simp at hi) (fun i cs hi => by simp at hi)
  exact ⟨E', _, _, ⟨rfl, rfl⟩, hr', .sl 0 0 0 c w.heap.size 2 arr (ρ.t 25) (0, 0) hφ (Nat.zero_le _) hcm (heap_alloc_new w.drew _) (by rw [hsz]; omega), hx'⟩

theorem cf_slices_Grow_Timer (a1 : Int) (r : List Tm) (h : slices_Grow_Timer a1 = some r) : CallF Tryz.prog 92 [LV.nils, (I a1)] 49 2 (r.map TmC) :=
 growTW Tryz.growT ⟨Tryz.f92, Tryz.func92, rfl, rfl⟩ _ _ te49.info (by show 16 ≤ 16; decide) rfl a1 r h
end Go.RX
