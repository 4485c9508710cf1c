/- TreeRoots, plainly. -/
import Derived.Test.YtljecfgfbebjiaaKe
import Derived.Test.YtljecfgfbebjiaaOe
import Derived.Test.YtljecfgfbebjiaaOd
set_option linter.unusedVariables false
set_option linter.unusedSimpArgs false
open Go Go.RX
namespace Go.RX
set_option maxHeartbeats 1000000
theorem shaped_eq {l : LanT} (hf : FewL l) : law16_shaped l (rols l) = some true := by
  have hn := hf.plans
  unfold law16_shaped
  have hl : (rols l).length = l.Plans.length := by unfold rols; simp
  rw [hl, decide_eq_true rfl, Bool.not_true, cond_false, rangeL_all (by omega) (fun _ => true) false (fun k p hp => by
    have hk := (List.getElem?_eq_some_iff.1 hp).1
    have : (rols l)[k]? = some (p.Ports.zipIdx.map fun x => rol l k x.2 x.1) := by
      unfold rols; rw [List.getElem?_map, List.getElem?_zipIdx, hp]; simp
    unfold law16_shaped_c0
    rw [gix_nat, this, Option.bind_some, List.length_map, List.length_zipIdx, decide_eq_true rfl]; rfl), all_tt]
  rfl
theorem rols_get {l : LanT} {b k : Nat} {p : PlanT} {x : LinkT} (hp : l.Plans[b]? = some p) (hx : p.Ports[k]? = some x) : ∃ r, (rols l)[b]? = some r ∧ r.length = p.Ports.length ∧ r[k]? = some (rol l b k x) := by
  refine ⟨p.Ports.zipIdx.map fun x => rol l b x.2 x.1, ?_, by simp, ?_⟩
  · unfold rols; rw [List.getElem?_map, List.getElem?_zipIdx, hp]; simp
  · rw [List.getElem?_map, List.getElem?_zipIdx, hx]; simp
/-- what a root port's segment tells -/
theorem rol0 {l : LanT} (hf : FewL l) (h : LR l) {b k : Nat} {p : PlanT} {x : LinkT} (hp : l.Plans[b]? = some p) (hx : p.Ports[k]? = some x) (h0 : rol l b k x = 0) :
    (bw l b).1 ≠ IDn l b ∧ rt l b = (k : Int) ∧ x.Up = true ∧ ∃ c j : Nat, ownS l x.Seg = some ⟨(c : Int), (j : Int)⟩ ∧ c < l.Plans.length ∧ c ≠ b ∧ (bw l c).1 = (bw l b).1 ∧ (bw l c).2 + x.Cost = (bw l b).2 := by
  have hr : (k : Int) = rt l b := by
    unfold rol at h0
    split at h0
    · omega
    · split at h0
      · omega
      · split at h0
        · assumption
        · omega
  have hok := (h.planOk hp).2.2 x (List.mem_of_getElem? hx)
  rcases (rt_eq hf h hp).2 with ⟨_, e⟩ | ⟨e0, j, y, q, e, hy, hu, hq, h1, h2, h3⟩
  · omega
  · have : j = k := by omega
    subst this
    rw [hx] at hy; cases hy
    obtain ⟨c, m, _, _, rfl, hc, hm, _⟩ := on_ok h (own_some hf h hok.1 hq).1
    refine ⟨e0, e, hu, c, m, hq, hc, fun e => h1 (by rw [e]), ?_, ?_⟩
    · unfold tol at h2; dsimp only at h2; rwa [Int.toNat_natCast] at h2
    · unfold tol at h3; dsimp only at h3; rwa [Int.toNat_natCast] at h3
theorem rol_rt {l : LanT} (hf : FewL l) (h : LR l) {b : Nat} {p : PlanT} (hp : l.Plans[b]? = some p) (h0 : (bw l b).1 ≠ IDn l b) : ∃ (j : Nat) (x : LinkT), p.Ports[j]? = some x ∧ rt l b = (j : Int) ∧ rol l b j x = 0 := by
  rcases (rt_eq hf h hp).2 with ⟨e, _⟩ | ⟨e0, j, y, q, e, hy, hu, hq, h1, h2, h3⟩
  · exact absurd e h0
  · refine ⟨j, y, hy, e, ?_⟩
    unfold rol
    rw [if_neg (by rw [hu]; simp), if_neg (by rw [hq]; intro k; cases k; exact h1 rfl), if_pos e.symm]
theorem no_ups {l : LanT} (hf : FewL l) (h : LR l) {b : Nat} {p : PlanT} (hp : l.Plans[b]? = some p) (hu : ∀ x ∈ p.Ports, x.Up = false) : (bw l b).1 = IDn l b := by
  rcases bw_src hf h (List.getElem?_eq_some_iff.1 hp).1 with e | ⟨k, c, he, e⟩
  · rw [e]
  · obtain ⟨hne, q, p', y, x, hq, hp', hy, hx, y1, x1, hs, rfl⟩ := he
    rw [hp] at hp'; cases hp'
    rw [hu x hx] at x1; cases x1
theorem TreeRoots_true (a0 : LanT) : law16_TreeRoots a0 = some true := by
  unfold law16_TreeRoots
  rw [few16_eq, Option.bind_some]
  have hf := fewL_few a0
  generalize fewL a0 = l at hf
  have hn := hf.plans
  rw [Roles_eq l hf, Option.bind_some]
  by_cases h : LR l
  · rw [if_pos h]
    have hsg := h.segs
    simp only [decide_true, Bool.not_true, Bool.cond_false]
    rw [shaped_eq hf, Option.bind_some]
    simp only [Bool.not_true, Bool.not_false, gd_true, alive16, Option.bind_some, Bool.cond_false]
    have hrl : (rols l).length = l.Plans.length := by unfold rols; simp
    obtain ⟨_, h1, _⟩ := rangeN_rec (n := l.Segs) (s0 := ()) (body := law16_TreeRoots_c0 l (rols l, 0)) (by omega) (fun _ _ => True) (fun _ => False) (fun _ => False) trivial fun s _ hs _ => by
      have hs' : 0 ≤ (s : Int) ∧ (s : Int) < l.Segs := ⟨by omega, hs⟩
      unfold law16_TreeRoots_c0
      rw [Own_eq l hf, if_pos h, if_pos hs', Option.bind_some, On_eq l hf, if_pos h, if_pos hs', Option.bind_some]
      dsimp only
      have e1 : (ownS l (s : Int)).isSome = decide ((0 : Int) < (((portsOn l (s : Int)).length : Nat) : Int)) := by
        cases hq : ownS l (s : Int) with
        | none => rw [(own_none hf h hs').1 hq]; rfl
        | some q =>
          have := List.length_pos_of_mem (own_some hf h hs' hq).1
          rw [decide_eq_true (by omega)]; rfl
      rw [e1]
      simp only [decide_true, Bool.not_true, Bool.cond_false, beq_self_eq_true]
      have hnp := portsOn_len hf (s : Int)
      rw [rangeL_all (by omega) (fun _ => true) (Step.ret false) (fun k q hq => by
        obtain ⟨b, j, p, x, rfl, hb, hj, hp, hx, hu, hseg⟩ := on_ok h (List.mem_of_getElem? hq)
        obtain ⟨r, hr, hrl', hrk⟩ := rols_get hp hx
        have hjl := (List.getElem?_eq_some_iff.1 hx).1
        obtain ⟨o, ho⟩ := own_up hf h hp hx hu
        rw [hseg] at ho
        unfold law16_TreeRoots_c1
        dsimp only
        rw [decide_eq_false (show ¬ (b : Int) < 0 by omega), decide_eq_false (show ¬ (((rols l).length : Nat) : Int) ≤ (b : Int) by omega), decide_eq_false (show ¬ (j : Int) < 0 by omega)]
        simp only [Bool.cond_false, Bool.not_false, gd_true]
        rw [gix_nat, hr, Option.bind_some, decide_eq_false (show ¬ ((r.length : Nat) : Int) ≤ (j : Int) by omega)]
        simp only [Bool.cond_false, Bool.not_false, gd_true]
        rw [Option.bind_some, gix_nat, hrk, Option.bind_some, ho]
        have e2 : decide (rol l b j x = 1) = (decide ((b : Int) = (Option.getD (some o) ⟨0, 0⟩).c0) && (decide ((j : Int) = (Option.getD (some o) ⟨0, 0⟩).c1) && true)) := by
          unfold rol
          rw [if_neg (by rw [hu]; simp), hseg, ho, Option.getD_some, Bool.and_true]
          by_cases hc : o = ⟨(b : Int), (j : Int)⟩
          · subst hc; simp
          · rw [if_neg (by intro e; exact hc (Option.some.inj e))]
            have : (decide ((b : Int) = o.c0) && decide ((j : Int) = o.c1)) = false := by
              rw [Bool.eq_false_iff]; intro e; simp only [Bool.and_eq_true, decide_eq_true_eq] at e
              exact hc (by cases o; dsimp only at e; rw [← e.1, ← e.2])
            rw [this]
            refine decide_eq_false ?_
            split <;> omega
        rw [e2]
        simp only [beq_self_eq_true, Bool.not_true, Bool.cond_false, cond_true]), all_tt]
      exact ⟨_, rfl, trivial⟩
    rename_i o hmo
    have ho : o = .nxt () := by cases o with
      | nxt s => rfl
      | ret r => exact hmo.elim
      | brk s => exact hmo.elim
    rw [h1, ho, aft_some_nxt]
    rw [rangeL_all (by rw [hrl]; omega) (fun _ => true) false (fun b row hrow => by
      have hb : b < l.Plans.length := by rw [← hrl]; exact (List.getElem?_eq_some_iff.1 hrow).1
      obtain ⟨p, hp⟩ : ∃ p, l.Plans[b]? = some p := ⟨_, List.getElem?_eq_getElem hb⟩
      have hpl := hf.ports p (List.mem_of_getElem? hp)
      have erow : row = p.Ports.zipIdx.map fun x => rol l b x.2 x.1 := by
        unfold rols at hrow; rw [List.getElem?_map, List.getElem?_zipIdx, hp] at hrow
        simpa using hrow.symm
      have hbb := bw_bnd hf h hb
      unfold law16_TreeRoots_c2
      rw [Best_eq l hf, if_pos h, if_pos ⟨by omega, by omega⟩, Int.toNat_natCast, Option.bind_some]
      simp only [decide_true, Bool.not_true, Bool.cond_false]
      obtain ⟨s, k1, k2, k3⟩ := rangeL_inv (s0 := ((0 : Int), (0 : Int))) (body := law16_TreeRoots_c3 l b ((bw l b).1, (bw l b).2, 0)) (xs := row) (by rw [erow]; simp; omega)
        (fun k s => s.1 = (if (bw l b).1 ≠ IDn l b ∧ rt l b < (k : Int) then 1 else 0) ∧ 0 ≤ s.2 ∧ s.2 ≤ (k : Int) ∧ (s.2 = 0 → ∀ (j : Nat) (x : LinkT), j < k → p.Ports[j]? = some x → x.Up = false))
        ⟨by
          dsimp only
          split
          · rename_i hc
            rcases (rt_eq hf h hp).2 with ⟨e, _⟩ | ⟨_, j, _, _, e, _⟩
            · exact absurd e hc.1
            · omega
          · rfl, Int.le_refl _, by omega, fun _ j x hj => absurd hj (Nat.not_lt_zero _)⟩ fun k x s hk ⟨i1, i2, i3, i4⟩ => by
        rw [erow, List.getElem?_map, List.getElem?_zipIdx] at hk
        obtain ⟨⟨y, k'⟩, hy, rfl⟩ := Option.map_eq_some_iff.1 hk
        obtain ⟨z, hz, e⟩ := Option.map_eq_some_iff.1 hy
        simp only [Prod.mk.injEq, Nat.zero_add] at e
        obtain ⟨rfl, rfl⟩ := e
        have hkl := (List.getElem?_eq_some_iff.1 hz).1
        have hok := (h.planOk hp).2.2 z (List.mem_of_getElem? hz)
        have hxc := hok.2
        dsimp only
        unfold law16_TreeRoots_c3
        rw [gix_nat, hp, Option.bind_some, gix_nat, hz, Option.bind_some]
        have nxtU : ∀ s2 : Int, (s2 = IntKind.i64.wrap (s.2 + 1) → z.Up = true → 0 ≤ s2 ∧ s2 ≤ ((k + 1 : Nat) : Int) ∧ (s2 = 0 → ∀ (j : Nat) (x : LinkT), j < k + 1 → p.Ports[j]? = some x → x.Up = false)) := fun s2 e _ => by
          rw [wr_in (by omega) (by omega)] at e
          exact ⟨by omega, by omega, fun e0 => by omega⟩
        have nxtD : z.Up = false → 0 ≤ s.2 ∧ s.2 ≤ ((k + 1 : Nat) : Int) ∧ (s.2 = 0 → ∀ (j : Nat) (x : LinkT), j < k + 1 → p.Ports[j]? = some x → x.Up = false) := fun hu =>
          ⟨i2, by omega, fun e0 j x hj hx => by
            by_cases hjk : j = k
            · subst hjk; rw [hz] at hx; cases hx; exact hu
            · exact i4 e0 j x (by omega) hx⟩
        by_cases hr : rol l b k z = 0
        · obtain ⟨r1, r2, r3, c, m, r4, r5, r6, r7, r8⟩ := rol0 hf h hp hz hr
          have hcb := bw_bnd hf h r5
          rw [r3, hr]
          simp only [decide_true, Bool.not_true, Bool.cond_false, cond_true]
          rw [Own_eq l hf, if_pos h, if_pos hok.1, Option.bind_some, r4]
          simp only [Option.getD_some, Option.isSome_some, decide_true, Bool.not_true, Bool.cond_false]
          rw [Best_eq l hf, if_pos h, if_pos ⟨by omega, by omega⟩, Int.toNat_natCast, Option.bind_some]
          dsimp only
          rw [r7, wr_in (a := (bw l c).2 + z.Cost) (by omega) (by omega), r8, decide_eq_false (show ¬ (c : Int) = (b : Int) by omega)]
          simp only [decide_true, Bool.not_true, Bool.cond_false]
          refine ⟨_, rfl, ?_, nxtU _ rfl r3⟩
          dsimp only
          rw [i1, if_neg (by omega), if_pos ⟨r1, by omega⟩]
          exact wr_in (by omega) (by omega)
        · have same : (if (bw l b).1 ≠ IDn l b ∧ rt l b < ((k + 1 : Nat) : Int) then 1 else 0 : Int) = (if (bw l b).1 ≠ IDn l b ∧ rt l b < (k : Int) then 1 else 0) := by
            by_cases h0 : (bw l b).1 ≠ IDn l b
            · obtain ⟨j, x, hj, e, e0⟩ := rol_rt hf h hp h0
              have : j ≠ k := fun q => by subst q; rw [hz] at hj; cases hj; exact hr e0
              by_cases hlt : rt l b < (k : Int)
              · rw [if_pos (show (bw l b).1 ≠ IDn l b ∧ rt l b < ((k + 1 : Nat) : Int) from ⟨h0, by omega⟩), if_pos ⟨h0, hlt⟩]
              · rw [if_neg (show ¬ ((bw l b).1 ≠ IDn l b ∧ rt l b < ((k + 1 : Nat) : Int)) from fun q => by omega), if_neg (fun q => hlt q.2)]
            · rw [if_neg (fun q => h0 q.1), if_neg (fun q => h0 q.1)]
          rw [decide_eq_false hr]
          cases hu : z.Up with
          | true =>
            simp only [Bool.not_false, cond_true]
            exact ⟨_, rfl, by dsimp only; rw [same]; exact i1, nxtU _ rfl hu⟩
          | false =>
            simp only [Bool.not_false, cond_true, cond_false]
            exact ⟨_, rfl, by dsimp only; rw [same]; exact i1, nxtD hu⟩
      rw [k1, aft_some_nxt, gix_nat, hp, Option.bind_some]
      have erl : row.length = p.Ports.length := by rw [erow]; simp
      rw [erl] at k2 k3
      have hz := bw_zero hf h hb
      have hid := bw_id hf h hb
      rw [IDn_of hp] at hz hid k2
      have hle : (bw l b).1 ≤ p.ID := by unfold wle at hid; dsimp only at hid; omega
      have hups : s.2 = 0 → (bw l b).1 = p.ID := fun e0 => by
        rw [← IDn_of hp]
        refine no_ups hf h hp fun x hx => ?_
        obtain ⟨j, hj⟩ := List.mem_iff_getElem?.1 hx
        exact k3.2.2 e0 j x (List.getElem?_eq_some_iff.1 hj).1 hj
      have hcond : (bif (bif (bif (bif (decide ((bw l b).1 = p.ID)) then (bif (!decide (s.1 = 0)) then true else (!decide ((bw l b).2 = 0))) else false) then true else (bif (!(decide ((bw l b).1 = p.ID))) then (!decide (s.1 = 1)) else false)) then true else (decide (p.ID < (bw l b).1))) then true else (bif (decide (s.2 = 0)) then (!(decide ((bw l b).1 = p.ID))) else false)) = false := by
        rw [decide_eq_false (show ¬ p.ID < (bw l b).1 by omega)]
        by_cases h0 : (bw l b).1 = p.ID
        · rw [if_neg (fun q => q.1 h0)] at k2
          rw [decide_eq_true h0, decide_eq_true k2, decide_eq_true (hz.2 h0)]
          cases decide (s.2 = 0) <;> rfl
        · obtain ⟨j, x, hj, e, _⟩ := rol_rt hf h hp (by rw [IDn_of hp]; exact h0)
          have hjl := (List.getElem?_eq_some_iff.1 hj).1
          rw [if_pos ⟨h0, by omega⟩] at k2
          rw [decide_eq_false h0, decide_eq_true k2, decide_eq_false (fun e => h0 (hups e))]
          rfl
      rw [hcond]; rfl), all_tt]
    rfl
  · rw [if_neg h]
    simp only [alive16, Option.bind_some]; rfl
end Go.RX
