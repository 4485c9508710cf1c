/- The law FloodMore, plainly. -/
import Derived.Test.YtoahcombdhgmhaaQc
import Derived.Test.YtoahcombdhgmhaaFb
set_option linter.unusedVariables false
set_option linter.unusedSimpArgs false
open Go Go.RX
namespace Go.RX
/-- All ports open; one more. -/
def allO (l : LanT) : List (List Bool) := l.Plans.map fun p => List.replicate p.Ports.length true
def moreO (o : List (List Bool)) (b k : Int) : List (List Bool) := o.zipIdx.map fun q => q.1.zipIdx.map fun v => v.1 || (decide ((q.2 : Int) = b) && decide ((v.2 : Int) = k))
theorem zipIdx_get {α : Type} {l : List α} {i : Nat} {x : α} (h : l[i]? = some x) : l.zipIdx[i]? = some (x, i) := by
  rw [List.getElem?_zipIdx, h]; simp
theorem moreO_get {o : List (List Bool)} {b k : Int} {i : Nat} {q : List Bool} (h : o[i]? = some q) : (moreO o b k)[i]? = some (q.zipIdx.map fun v => v.1 || (decide ((i : Int) = b) && decide ((v.2 : Int) = k))) := by
  unfold moreO
  rw [List.getElem?_map, zipIdx_get h]; rfl
theorem shp_all {l : LanT} : Shp l (allO l) := ⟨by unfold allO; rw [List.length_map], fun b p q h1 h2 => by
  unfold allO at h2
  rw [List.getElem?_map, h1] at h2
  obtain rfl := Option.some.inj h2
  rw [List.length_replicate]⟩
theorem shp_more {l : LanT} {o : List (List Bool)} (hs : Shp l o) (b k : Int) : Shp l (moreO o b k) := ⟨by unfold moreO; rw [List.length_map, List.length_zipIdx]; exact hs.len, fun i p q h1 h2 => by
  have hi : i < o.length := by rw [hs.len]; exact (List.getElem?_eq_some_iff.1 h1).1
  have ho : o[i]? = some o[i] := List.getElem?_eq_getElem hi
  rw [moreO_get ho] at h2
  obtain rfl := Option.some.inj h2
  rw [List.length_map, List.length_zipIdx]
  exact hs.row i p _ h1 ho⟩
theorem opn_all (p : PlanT) : opn p (List.replicate p.Ports.length true) = ups p := by
  have key : ∀ xs : List LinkT, ((xs.zip (List.replicate xs.length true)).filterMap fun x => if x.1.Up = true ∧ x.2 = true then some x.1.Seg else none) = (xs.filter (·.Up)).map (·.Seg) := by
    intro xs
    induction xs with
    | nil => rfl
    | cons x xs ih =>
      rw [List.length_cons, List.replicate_succ, List.zip_cons_cons, List.filterMap_cons, ih, List.filter_cons]
      cases x.Up <;> simp
  exact key p.Ports
theorem edO_all (l : LanT) : edO l (allO l) = ed l := by
  unfold edO allO ed
  have key : ∀ ps : List PlanT, ((ps.zip (ps.map fun p => List.replicate p.Ports.length true)).map fun x => opn x.1 x.2) = ps.map ups := by
    intro ps
    induction ps with
    | nil => rfl
    | cons p ps ih => rw [List.map_cons, List.zip_cons_cons, List.map_cons, ih, opn_all]; rfl
  exact key l.Plans
theorem more_jn {l : LanT} {o : List (List Bool)} {b k : Int} {x y : Int} (h : Jn (edO l o) x y) : Jn (edO l (moreO o b k)) x y := by
  obtain ⟨c, p, q, h1, h2, h3, h4⟩ := jn_edO.1 h
  have key : ∀ z, z ∈ opn p q → z ∈ opn p (q.zipIdx.map fun v => v.1 || (decide ((c : Int) = b) && decide ((v.2 : Int) = k))) := fun z hz => by
    obtain ⟨m, u, m1, m2, m3, m4⟩ := mem_opn.1 hz
    exact mem_opn.2 ⟨m, u, m1, by rw [List.getElem?_map, zipIdx_get m2]; rfl, m3, m4⟩
  exact jn_edO.2 ⟨c, p, _, h1, moreO_get h2, key x h3, key y h4⟩
theorem FloodMore_true (a0 : LanT) (a1 : List (List Bool)) (a2 a3 a4 : Int) : law17_FloodMore a0 a1 a2 a3 a4 = some true := by
  unfold law17_FloodMore
  rw [few17_eq, Option.bind_some, rows_eq, Option.bind_some]
  have hf := fewL_few a0
  have hr := rowsL_few a1
  generalize fewL a0 = l at hf ⊢
  generalize rowsL a1 = o at hr ⊢
  rw [Steps_eq l o a2 hf, Option.bind_some, alive17]
  by_cases h : LR l ∧ Shp l o
  · rw [if_pos h]
    obtain ⟨h, hs⟩ := h
    by_cases ha : 0 ≤ a2 ∧ a2 < l.Segs
    · rw [if_pos ha]
      have hseg := h.segs
      have hpl := hf.plans
      have l21 : rangeL (law17_FloodMore_b21 a3 a4 o) l.Plans ([], []) = some (.nxt (allO l, moreO o a3 a4)) := by
        obtain ⟨t, h1, h2, h3⟩ := rangeL_inv (ρ := Bool) (body := law17_FloodMore_b21 a3 a4 o) (xs := l.Plans) (s0 := ([], [])) (by omega)
          (fun k t => t.1 = (allO l).take k ∧ t.2 = (moreO o a3 a4).take k) ⟨by simp, by simp⟩ (fun k p t hk ⟨t1, t2⟩ => by
            have hkl := (List.getElem?_eq_some_iff.1 hk).1
            have hko : k < o.length := by rw [hs.len]; exact hkl
            have hq : o[k]? = some o[k] := List.getElem?_eq_getElem hko
            have hql : o[k].length ≤ 10 := hr.row _ (List.getElem_mem hko)
            have hpp := hf.ports p (List.mem_of_getElem? hk)
            unfold law17_FloodMore_b21
            have l22 : rangeL law17_FloodMore_b22 p.Ports [] = some (.nxt (List.replicate p.Ports.length true)) := by
              rw [rangeL_map (f := fun _ : LinkT => true) (by omega) (fun j x u hx hu => by
                have := (List.getElem?_eq_some_iff.1 hx).1
                unfold law17_FloodMore_b22
                rw [grd_true (fits_of (by rw [List.length_append]; simp; omega) (by decide))])]
              rw [List.map_const']
            have l23 : rangeL (law17_FloodMore_b23 a3 a4 k) o[k] [] = some (.nxt (o[k].zipIdx.map fun v => v.1 || (decide ((k : Int) = a3) && decide ((v.2 : Int) = a4)))) := by
              obtain ⟨u, u1, u2⟩ := rangeL_inv (ρ := Step Bool ((List (List Bool)) × (List (List Bool)))) (body := law17_FloodMore_b23 a3 a4 k) (xs := o[k]) (s0 := []) (by omega)
                (fun j u => u = (o[k].zipIdx.map fun v => v.1 || (decide ((k : Int) = a3) && decide ((v.2 : Int) = a4))).take j) (by simp) (fun j x u hx hu => by
                  have hjl := (List.getElem?_eq_some_iff.1 hx).1
                  unfold law17_FloodMore_b23
                  rw [grd_true (fits_of (by rw [List.length_append, hu, List.length_take]; simp; omega) (by decide))]
                  refine ⟨_, rfl, ?_⟩
                  rw [List.take_add_one, List.getElem?_map, zipIdx_get hx, hu]
                  congr 2
                  cases x <;> cases decide ((k : Int) = a3) <;> rfl)
              rw [u1, u2, List.take_of_length_le (by rw [List.length_map, List.length_zipIdx]; exact Nat.le_refl _)]
            rw [decide_eq_false (show ¬ ((o.length : Nat) : Int) ≤ ((k : Nat) : Int) by omega), cond_false, l22, aft_some_nxt, gix_nat, hq, Option.bind_some, l23, aft_some_nxt]
            have e1 : t.1.length ≤ 8 := by rw [t1, List.length_take]; omega
            have e2 : t.2.length ≤ 8 := by rw [t2, List.length_take]; omega
            rw [grd_true (fits_of (by rw [List.length_append]; simp; omega) (by decide)), grd_true (fits_of (by rw [List.length_append]; simp; omega) (by decide))]
            refine ⟨_, rfl, ?_, ?_⟩
            · show t.1 ++ _ = _
              rw [List.take_add_one, t1]; unfold allO; rw [List.getElem?_map, hk]; rfl
            · show t.2 ++ _ = _
              rw [List.take_add_one, moreO_get hq, t2]; rfl)
        rw [h1]
        have e1 : t.1 = allO l := by rw [h2, List.take_of_length_le (by unfold allO; rw [List.length_map]; exact Nat.le_refl _)]
        have e2 : t.2 = moreO o a3 a4 := by rw [h3, List.take_of_length_le (by unfold moreO; rw [List.length_map, List.length_zipIdx, hs.len]; exact Nat.le_refl _)]
        rw [← e1, ← e2]
      have hs2 := shp_more hs a3 a4
      obtain ⟨_, d1⟩ := stepsT_eq hf h hs ha
      obtain ⟨_, d2⟩ := stepsT_eq hf h hs2 ha
      dsimp only
      rw [decide_eq_true rfl, Bool.not_true, cond_false, l21, aft_some_nxt]
      dsimp only
      rw [Steps_eq l _ a2 hf, if_pos ⟨h, hs2⟩, if_pos ha, Option.bind_some, Reach_eq l _ a2 hf, if_pos ⟨h, shp_all⟩, if_pos ha, Option.bind_some, Part_eq l hf, if_pos h, if_pos ha, Option.bind_some, edO_all]
      have hpl2 := partI_len (ed l) l.Segs a2
      dsimp only
      rw [same_eq _ _ (by omega), decide_eq_true rfl, decide_eq_true rfl, decide_eq_true (show (((stepsT l o a2).length : Nat) : Int) = (((stepsT l (moreO o a3 a4) a2).length : Nat) : Int) by rw [d1.1, d2.1])]
      simp only [Bool.not_true, Bool.not_false, cond_false, cond_true, gd_true, Option.bind_some]
      have l24 : rangeL (law17_FloodMore_b24 (stepsT l (moreO o a3 a4) a2, 0)) (stepsT l o a2) () = some (.nxt ()) := by
        rcases rangeL_find (s0 := ()) (body := law17_FloodMore_b24 (stepsT l (moreO o a3 a4) a2, 0)) (xs := stepsT l o a2) (by rw [d1.1]; omega) (fun _ _ => false) (fun _ _ => false) (fun k v hk => by
          have hkl := (List.getElem?_eq_some_iff.1 hk).1
          rw [d1.1] at hkl
          unfold law17_FloodMore_b24
          dsimp only
          rw [gix_nat, List.getElem?_eq_getElem (show k < (stepsT l (moreO o a3 a4) a2).length by rw [d2.1]; exact hkl), gd_some, Option.bind_some, gd_some, Option.bind_some]
          rcases d1.2 k hkl with ⟨h1, h2⟩ | ⟨n, h1, h2⟩
          · rw [hk] at h1
            obtain rfl := Option.some.inj h1
            rfl
          · rw [hk] at h1
            obtain rfl := Option.some.inj h1
            have hw := h2.1.mono (H := Jn (edO l (moreO o a3 a4))) fun x y => more_jn
            rcases d2.2 k hkl with ⟨h3, h4⟩ | ⟨m, h3, h4⟩
            · exact absurd hw (h4 n)
            · rw [List.getElem?_eq_getElem (show k < (stepsT l (moreO o a3 a4) a2).length by rw [d2.1]; exact hkl)] at h3
              rw [Option.some.inj h3]
              obtain ⟨j, hj1, hj2⟩ := hw.dist
              have := hj2.uniq h4
              have q1 : decide ((0 : Int) ≤ ((n : Nat) : Int)) = true := decide_eq_true (by omega)
              have q2 : decide (((m : Nat) : Int) < 0) = false := decide_eq_false (by omega)
              have q3 : decide (((n : Nat) : Int) < ((m : Nat) : Int)) = false := decide_eq_false (by omega)
              simp only [q1, q2, q3, cond_true, cond_false, Bool.not_false]) with ⟨_, _, _, h, _⟩ | ⟨_, h⟩
        · cases h
        · exact h
      rw [l24]; rfl
    · rw [if_neg ha]; rfl
  · rw [if_neg h]; rfl
end Go.RX
