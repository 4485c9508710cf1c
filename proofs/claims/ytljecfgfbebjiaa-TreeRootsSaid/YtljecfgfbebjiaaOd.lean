/- TreeNear, plainly. -/
import Derived.Test.YtljecfgfbebjiaaKd
import Derived.Test.YtljecfgfbebjiaaOX
import Derived.Test.YtljecfgfbebjiaaAl
set_option linter.unusedVariables false
set_option linter.unusedSimpArgs false
open Go Go.RX
namespace Go.RX
set_option maxHeartbeats 1000000
theorem few16_eq (l : LanT) : law16_few l = some (fewL l) := by
  unfold law16_few
  rw [grd_true (mn_ok _ _ (by decide)), show (8 : Int) = ((8 : Nat) : Int) from rfl, take_mn,
    rangeL_map (f := fun p : PlanT => (⟨p.ID, p.Ports.take 10⟩ : PlanT)) (by rw [List.length_take]; omega) (fun k x s hx hk => by
      have hk8 : k < 8 := by have := (List.getElem?_eq_some_iff.1 hx).1; rw [List.length_take] at this; omega
      unfold law16_few_c0
      rw [grd_true (mn_ok _ _ (by decide)), grd_true (fits_of (by simp; omega) (by decide)), show (10 : Int) = ((10 : Nat) : Int) from rfl, take_mn]),
    aft_some_nxt, grd_true (mn_ok _ _ (by decide)), show (12 : Int) = ((12 : Nat) : Int) from rfl, take_mn]
  rfl
theorem all_tt {α : Type} (l : List α) : l.all (fun _ => true) = true := by induction l <;> simp_all
theorem near_in {l : LanT} (hf : FewL l) (h : LR l) {i j : Nat} {p q : PlanT} (hp : l.Plans[i]? = some p) (hq : l.Plans[j]? = some q) {x y : LinkT} (hx : x ∈ p.Ports) (hy : y ∈ q.Ports)
    (hc : i ≠ j ∧ x.Up = true ∧ y.Up = true ∧ x.Seg = y.Seg) : (bw l i).1 = (bw l j).1 ∧ (bw l i).2 ≤ IntKind.i64.wrap ((bw l j).2 + x.Cost) ∧ (bw l j).2 ≤ IntKind.i64.wrap ((bw l i).2 + y.Cost) := by
  have e1 : Ed l i j y.Cost := ⟨hc.1, p, q, x, y, hp, hq, hx, hy, hc.2.1, hc.2.2.1, hc.2.2.2, rfl⟩
  have e2 : Ed l j i x.Cost := ⟨Ne.symm hc.1, q, p, y, x, hq, hp, hy, hx, hc.2.2.1, hc.2.1, hc.2.2.2.symm, rfl⟩
  have r1 := bw_root hf h e1
  have a1 := bw_edge hf h e1
  have a2 := bw_edge hf h e2
  have b1 := bw_bnd hf h (e1.rng h).1.1
  have b2 := bw_bnd hf h (e1.rng h).1.2
  have c1 := (e1.rng h).2
  have c2 := (e2.rng h).2
  unfold wle wad at a1 a2
  dsimp only at a1 a2
  rw [wr_in (by omega) (by omega), wr_in (by omega) (by omega)]
  omega
theorem TreeNear_true (a0 : LanT) (a1 a2 : Int) : law16_TreeNear a0 a1 a2 = some true := by
  unfold law16_TreeNear
  rw [few16_eq, Option.bind_some]
  have hf := fewL_few a0
  generalize fewL a0 = l at hf
  have hn := hf.plans
  by_cases h0 : l.Plans.length = 0
  · rw [decide_eq_true (show ((l.Plans.length : Nat) : Int) = 0 by omega), cond_true, Best_eq l hf, Option.bind_some, alive16, Option.bind_some]
    by_cases h : LR l
    · rw [if_pos h, if_neg (by omega)]; rfl
    · rw [if_neg h]; rfl
  · have hne : ((l.Plans.length : Nat) : Int) ≠ 0 := by omega
    rw [decide_eq_false hne, cond_false, grd_true hne, grd_true hne, grd_true hne, grd_true hne]
    obtain ⟨i, hi, hi2⟩ := idx_ok (n := ((l.Plans.length : Nat) : Int)) (by omega) (by omega) a1
    obtain ⟨j, hj, hj2⟩ := idx_ok (n := ((l.Plans.length : Nat) : Int)) (by omega) (by omega) a2
    have hil : i < l.Plans.length := by omega
    have hjl : j < l.Plans.length := by omega
    obtain ⟨p, hp⟩ : ∃ p, l.Plans[i]? = some p := ⟨_, List.getElem?_eq_getElem hil⟩
    obtain ⟨q, hq⟩ : ∃ q, l.Plans[j]? = some q := ⟨_, List.getElem?_eq_getElem hjl⟩
    rw [hi, hj, Best_eq l hf, Option.bind_some, Best_eq l hf, Option.bind_some]
    by_cases h : LR l
    · rw [if_pos h, if_pos h, if_pos (by omega), if_pos (by omega), Int.toNat_natCast, Int.toNat_natCast]
      have hloop : rangeL (law16_TreeNear_c0 a1 a2 l ((bw l i).1, (bw l i).2, 0) ((bw l j).1, (bw l j).2, 0)) p.Ports () = some (.nxt ()) := by
        have hpl := hf.ports p (List.mem_of_getElem? hp)
        have hql := hf.ports q (List.mem_of_getElem? hq)
        rw [rangeL_all (by omega) (fun _ => true) true (fun k x hx => by
          unfold law16_TreeNear_c0
          rw [hj, gix_nat, hq, Option.bind_some, rangeL_all (by omega) (fun _ => true) (Step.ret false) (fun k' y hy => by
            unfold law16_TreeNear_c1
            rw [hi, hj]
            dsimp only
            by_cases hc : i ≠ j ∧ x.Up = true ∧ y.Up = true ∧ x.Seg = y.Seg
            · obtain ⟨r1, r2, r3⟩ := near_in hf h hp hq (List.mem_of_getElem? hx) (List.mem_of_getElem? hy) hc
              rw [decide_eq_true r1, decide_eq_false (show ¬ IntKind.i64.wrap ((bw l j).2 + x.Cost) < (bw l i).2 by omega), decide_eq_false (show ¬ IntKind.i64.wrap ((bw l i).2 + y.Cost) < (bw l j).2 by omega)]
              simp
            · have : (bif (bif (bif (!decide ((i : Int) = (j : Int))) then x.Up else false) then y.Up else false) then decide (x.Seg = y.Seg) else false) = false := by
                by_cases c1 : (i : Int) = (j : Int)
                · rw [decide_eq_true c1]; rfl
                · rw [decide_eq_false c1]
                  cases x1 : x.Up with
                  | false => rfl
                  | true => cases y1 : y.Up with
                    | false => rfl
                    | true => exact decide_eq_false fun e => hc ⟨by omega, x1, y1, e⟩
              rw [this]; rfl), all_tt]
          rfl), all_tt]
        rfl
      simp only [decide_true, Bool.not_true, Bool.cond_false, Bool.not_false, gd_true, alive16, Option.bind_some]
      rw [gix_nat, hp, Option.bind_some, hloop, aft_some_nxt]
      have hb := bw_bnd hf h hil
      rw [decide_eq_true hb.1, gd_true, Option.bind_some, cond_true]
      have hz := bw_zero hf h hil
      rw [IDn_of hp] at hz
      congr 1
      rw [decide_eq_decide.2 hz]
      exact beq_self_eq_true _
    · rw [if_neg h, if_neg h]
      simp only [alive16, Option.bind_some]; rfl
end Go.RX
