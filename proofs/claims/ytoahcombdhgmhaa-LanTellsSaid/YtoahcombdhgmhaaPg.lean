/- The law LanTells, plainly. -/
import Derived.Test.YtoahcombdhgmhaaPf
import Derived.Test.YtoahcombdhgmhaaLf
set_option linter.unusedVariables false
set_option linter.unusedSimpArgs false
open Go Go.RX
namespace Go.RX
theorem portsOn_len (l : LanT) (hf : FewL l) (s : Int) : (portsOn l s).length ≤ 1000 := by
  have hp := hf.plans
  have key : ∀ (ps : List PlanT) (k : Nat), (∀ p ∈ ps, p.Ports.length ≤ 10) → ((ps.zipIdx k).flatMap fun p => portsOf p.2 p.1 s).length ≤ 10 * ps.length := by
    intro ps
    induction ps with
    | nil => intro k _; simp
    | cons p ps ih =>
      intro k h
      have h1 := ih (k + 1) fun q hq => h q (List.mem_cons_of_mem _ hq)
      have h2 := h p (List.mem_cons_self ..)
      have h3 := portsOf_len k p s
      rw [List.zipIdx_cons, List.flatMap_cons, List.length_append, List.length_cons]
      dsimp only
      omega
  have := key l.Plans 0 hf.ports
  unfold portsOn
  omega
theorem LanTells_true (a0 : LanT) (a1 : Int) : law15_LanTells a0 a1 = some true := by
  unfold law15_LanTells
  rw [few_eq, Option.bind_some]
  have hf := fewL_few a0
  generalize fewL a0 = l at hf ⊢
  rw [On_eq l hf, Option.bind_some, Part_eq l hf, Option.bind_some, Parts_eq l hf, Option.bind_some, Loops_eq l hf, Option.bind_some, LanRight_eq l hf, Option.bind_some, refRight_eq l hf, Option.bind_some, alive15]
  by_cases h : LR l
  · rw [if_pos h, if_pos h, if_pos h, if_pos h, decide_eq_true h]
    dsimp only
    rw [refParts_eq l hf h, refLoops_eq l hf h]
    simp only [BEq.rfl, Bool.not_true, Bool.not_false, cond_false, cond_true, gd_true, gd_some, Option.bind_some, decide_true]
    by_cases k : 0 ≤ a1 ∧ a1 < l.Segs
    · rw [if_pos k, if_pos k]
      dsimp only
      have e : (bif (decide (a1 < 0)) then true else (decide (l.Segs ≤ a1))) = false := by
        rw [decide_eq_false (show ¬ a1 < 0 by omega), decide_eq_false (show ¬ l.Segs ≤ a1 by omega)]; rfl
      have hh := hf.hosts
      have hfl : (l.Hosts.filter fun h => decide (h.Seg = a1)).length ≤ 1000000 := Nat.le_trans (List.length_filter_le _ _) (by omega)
      have hpl := portsOn_len l hf a1
      have hsg := h.segs
      have hil := partI_len (ed l) l.Segs a1
      rw [e, refHosts_eq l hf]
      simp only [decide_true, cond_true, cond_false, gd_true, Option.bind_some]
      rw [stations_eq _ _ hfl, decide_eq_true rfl, refPorts_eq l hf]
      simp only [cond_true, gd_true, Option.bind_some]
      rw [pairs_eq _ _ (by omega), decide_eq_true rfl, refPart_eq l hf h a1 k]
      simp only [cond_true, gd_true, Option.bind_some]
      rw [same_eq _ _ (by omega), decide_eq_true rfl]
      rfl
    · rw [if_neg k, if_neg k]
      have e : (bif (decide (a1 < 0)) then true else (decide (l.Segs ≤ a1))) = true := by
        by_cases k1 : a1 < 0
        · rw [decide_eq_true k1]; rfl
        · rw [decide_eq_false k1, decide_eq_true (show l.Segs ≤ a1 by omega)]; rfl
      rw [e]; rfl
  · rw [if_neg h, if_neg h, if_neg h, if_neg h, decide_eq_false h]; rfl
end Go.RX
